import Derived.Test.YtcekcgceeidcfaaR0
namespace Go.Proofs.Fl
open Go.RowKit

/-- A pool of one drive that lives: what a Store comes to. -/
theorem store_one {m : PM} {d : DM} (hm : m.list = [d]) (hal : d.lost = false) (S K : Nat) (hS : S ≤ 1073741824) (hK : K ≤ 255) (b : Bytes) (hb : b.length ≤ 50) :
    m.store 0 S K b = match (d.find S K).orElse (fun _ => d.free1) with | none => (3, m) | some j => m.write 0 j (frame S K b) := by
  have hg : m.get (0 : Int).toNat = d := by unfold PM.get; rw [hm]; rfl
  unfold PM.store
  rw [if_neg (by rw [hm]; simp; omega), hg, if_neg (by rw [hal]; simp)]
  rfl
theorem write_one {m : PM} {d : DM} (hm : m.list = [d]) (j : Nat) (l : Bytes) (hb : m.burn.1 = true) : m.write 0 j l = (0, { m.burn.2 with list := [d.put j l] }) := by
  unfold PM.write
  rw [if_pos hb]
  have hg : m.get 0 = d := by unfold PM.get; rw [hm]; rfl
  rw [hg]
  unfold PM.setD
  rw [burn_list, hm]
  rfl
theorem write_down {m : PM} (i j : Nat) (l : Bytes) (hb : m.burn.1 = false) : m.write i j l = (9, m.burn.2) := by
  unfold PM.write; rw [hb]; rfl

/-- PoolFuse's pool ahead of round i. -/
structure FuI (k i : Nat) (m : PM) : Prop where
  is : ∃ d, m.list = [d] ∧ Filled d 20 (min i k) (fun j => frame j 0 []) ∧ d.loose.length ≤ i
  up : i ≤ k → m.fuse = (k : Int) - i ∧ m.down = false
  dn : k < i → m.down = true

theorem FuI.calm {k i : Nat} {m : PM} (h : FuI k i m) (hi : i ≤ 1000) : m.calm := by
  obtain ⟨d, h1, _, h3⟩ := h.is
  intro j hj
  rw [h1] at hj
  have : j = 0 := by simpa using hj
  subst this
  have : m.get 0 = d := by unfold PM.get; rw [h1]; rfl
  rw [this]; omega
theorem FuI.step {k i : Nat} {m : PM} (h : FuI k i m) (hk : k < 12) (hi : i < 16) : ∃ m', m.store 0 i 0 [] = (if i < k then 0 else 9, m') ∧ FuI k (i + 1) m' := by
  obtain ⟨d, h1, h2, h3⟩ := h.is
  have hopen : ∀ j, j < min i k → (openF (frame j 0 [])).isSome = true := fun j hj => by rw [openF_frame j 0 [] (by omega) (by omega) (by simp)]; rfl
  have hfind : d.find i ((0 : Nat) : Int) = none := h2.find_none _ _ fun j hj => by
    rw [hasB_frame j 0 [] (by omega) (by omega) (by simp)]
    have : ((j : Int) == (i : Int)) = false := by simp; omega
    rw [this]; rfl
  have hfree : d.free1 = some (min i k) := h2.free (by omega) hopen
  have hst := store_one h1 h2.alive i 0 (by omega) (by omega) [] (by simp)
  rw [hfind, hfree] at hst
  change m.store 0 i 0 [] = m.write 0 (min i k) (frame i 0 []) at hst
  rw [hst]
  by_cases hik : i < k
  · obtain ⟨u1, u2⟩ := h.up (by omega)
    have hbu : m.burn = (true, { m with fuse := m.fuse - 1 }) := by
      unfold PM.burn
      rw [if_neg (by rw [u1, u2]; simp; omega), if_pos (by omega)]
    have em : min i k = i := by omega
    rw [write_one h1 _ _ (by rw [hbu]), if_pos hik, em, hbu]
    refine ⟨_, rfl, ⟨⟨d.put i (frame i 0 []), rfl, ?_, ?_⟩, fun h' => ⟨by simp [u1]; omega, u2⟩, fun h' => by omega⟩⟩
    · have := h2.put
      rw [em] at this
      have e2 : min (i + 1) k = i + 1 := by omega
      rw [e2]; exact this
    · simp [DM.put]; omega
  · have hbu : m.burn.1 = false ∧ m.burn.2 = { m with down := true } := by
      unfold PM.burn
      rw [if_pos]
      · exact ⟨rfl, rfl⟩
      · by_cases e : i = k
        · right; have := (h.up (by omega)).1; omega
        · left; exact h.dn (by omega)
    rw [write_down _ _ _ hbu.1, if_neg hik, hbu.2]
    refine ⟨_, rfl, ⟨⟨d, h1, ?_, by omega⟩, fun h' => by omega, fun _ => rfl⟩⟩
    have e2 : min (i + 1) k = min i k := by omega
    rw [e2]; exact h2
theorem FuI.held {k i : Nat} {m : PM} (h : FuI k i m) (hk : k < 12) (hi : i ≤ 16) : (m.held 0).length = min i k := by
  obtain ⟨d, h1, h2, h3⟩ := h.is
  unfold PM.held
  rw [if_pos (by rw [h1]; simp)]
  have hg : m.get (0 : Int).toNat = d := by unfold PM.get; rw [h1]; rfl
  rw [hg]
  exact h2.held (by omega) fun j hj => by rw [openF_frame j 0 [] (by omega) (by omega) (by simp)]; rfl
theorem FuI.flush {k i : Nat} {m : PM} (h : FuI k i m) (hki : k < i) : (m.flush 0).1 = 9 := by
  obtain ⟨d, h1, h2, h3⟩ := h.is
  have hg : m.get (0 : Int).toNat = d := by unfold PM.get; rw [h1]; rfl
  have hu : m.use 0 = 0 := by
    unfold PM.use
    rw [if_pos (by rw [h1]; simp)]
    change (if (m.get (0 : Int).toNat).lost then 8 else 0) = 0
    rw [hg, h2.alive]; rfl
  have hbu : m.burn.1 = false := by
    unfold PM.burn
    rw [if_pos (.inl (h.dn hki))]
  unfold PM.flush
  rw [if_neg (by simp [hu]), if_neg (by simp [hbu])]
theorem FuI.start (k : Nat) (hk : k < 12) : FuI k 0 { (PM.add ⟨[], -1, false⟩ 20) with fuse := if 0 ≤ (k : Int) then (k : Int) else 0 } := by
  refine ⟨⟨DM.new 20, rfl, ?_, by simp [DM.new]⟩, fun _ => ⟨by simp, rfl⟩, fun h => by omega⟩
  rw [Nat.zero_min]
  exact Filled.new 20 _
end Go.Proofs.Fl

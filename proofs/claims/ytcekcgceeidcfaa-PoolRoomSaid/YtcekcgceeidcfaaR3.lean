import Derived.Test.YtcekcgceeidcfaaR2
namespace Go.Proofs.Fl
open Go.RowKit

theorem heldTo_all (d : DM) : ∀ k, (∀ j, j < k → (openF (d.get j)).isSome = true) → (d.heldTo k).length = k := by
  intro k
  induction k with
  | zero => intro _; rfl
  | succ k ih =>
    intro h
    have h1 := h k (by omega)
    simp only [DM.heldTo]
    cases ho : openF (d.get k) with
    | none => rw [ho] at h1; cases h1
    | some r => simp [ih fun j hj => h j (by omega)]

/-- A pool of one drive whose power stays. -/
structure One (m : PM) (d : DM) : Prop where
  list : m.list = [d]
  fuse : m.fuse = -1
  down : m.down = false
  alive : d.lost = false
theorem One.burn {m : PM} {d : DM} (h : One m d) : m.burn = (true, m) := by
  unfold PM.burn
  rw [if_neg (by rw [h.fuse, h.down]; simp), if_neg (by rw [h.fuse]; omega)]
theorem One.get {m : PM} {d : DM} (h : One m d) : m.get 0 = d := by unfold PM.get; rw [h.list]; rfl
theorem One.use {m : PM} {d : DM} (h : One m d) : m.use 0 = 0 := by
  unfold PM.use
  rw [if_pos (by rw [h.list]; simp)]
  change (if (m.get 0).lost then 8 else 0) = 0
  rw [h.get, h.alive]; rfl
theorem One.write {m : PM} {d : DM} (h : One m d) (j : Nat) (l : Bytes) : ∃ m', m.write 0 j l = (0, m') ∧ One m' (d.put j l) := by
  refine ⟨_, write_one h.list j l (by rw [h.burn]), ?_⟩
  rw [h.burn]
  exact ⟨rfl, h.fuse, h.down, h.alive⟩
theorem One.store {m : PM} {d : DM} (h : One m d) (S K : Nat) (hS : S ≤ 1073741824) (hK : K ≤ 255) (b : Bytes) (hb : b.length ≤ 50) (j : Nat) (hj : (d.find S K).orElse (fun _ => d.free1) = some j) :
    ∃ m', m.store 0 S K b = (0, m') ∧ One m' (d.put j (frame S K b)) := by
  rw [store_one h.list h.alive S K hS hK b hb, hj]
  exact h.write j _
theorem One.full {m : PM} {d : DM} (h : One m d) (S K : Nat) (hS : S ≤ 1073741824) (hK : K ≤ 255) (b : Bytes) (hb : b.length ≤ 50) (hj : (d.find S K).orElse (fun _ => d.free1) = none) :
    m.store 0 S K b = (3, m) := by
  rw [store_one h.list h.alive S K hS hK b hb, hj]
theorem One.erase {m : PM} {d : DM} (h : One m d) (S K : Int) (j : Nat) (hj : d.find S K = some j) : ∃ m', m.erase 0 S K = (0, m') ∧ One m' (d.put j []) := by
  have e : m.erase 0 S K = m.write 0 j [] := by
    unfold PM.erase
    rw [if_neg (by simp [h.use])]
    change (match (m.get 0).find S K with | none => (7, m) | some j => m.write 0 j []) = _
    rw [h.get, hj]
  rw [e]; exact h.write j []
theorem One.calm {m : PM} {d : DM} (h : One m d) (hl : d.loose.length ≤ 1000000000) : m.calm := by
  intro i hi
  rw [h.list] at hi
  have : i = 0 := by simpa using hi
  subst this
  rw [h.get]; exact hl
theorem One.new (n : Int) : One (PM.add ⟨[], -1, false⟩ n) (DM.new (clampN n)) := ⟨rfl, rfl, rfl, rfl⟩

/-! PoolRoom: ahead of round i -/
def roomF (j : Nat) : Bytes := frame j 1 [121]
theorem roomF_open (j : Nat) (h : j < 4294967296) : openF (roomF j) = some (j, 1, [121]) := openF_frame j 1 [121] h (by omega) (by simp)
theorem roomF_has (j : Nat) (h : j < 4294967296) (S : Nat) : hasB S ((1 : Nat) : Int) (roomF j) = decide (j = S) := by
  unfold roomF
  rw [hasB_frame j 1 [121] h (by omega) (by simp)]
  by_cases e : j = S
  · simp [e]
  · have : ((j : Int) == (S : Int)) = false := by simp; omega
    rw [this]; simp [e]
structure RoomI (n i : Nat) (m : PM) (d : DM) : Prop where
  one : One m d
  fill : Filled d n i roomF
  few : d.loose.length ≤ 2 * i

theorem RoomI.step {n i : Nat} {m : PM} {d : DM} (h : RoomI n i m d) (hi : i < n) (hn : n ≤ 20) :
    ∃ m1 d1, m.store 0 i 1 [120] = (0, m1) ∧ One m1 d1 ∧ d1.loose.length ≤ 2 * i + 1 ∧ ∃ m2 d2, m1.store 0 i 1 [121] = (0, m2) ∧ RoomI n (i + 1) m2 d2 := by
  have hfind : d.find i ((1 : Nat) : Int) = none := h.fill.find_none _ _ fun j hj => by rw [roomF_has j (by omega)]; simp; omega
  have hfree : d.free1 = some i := h.fill.free hi fun j hj => by rw [roomF_open j (by omega)]; rfl
  obtain ⟨m1, e1, o1⟩ := h.one.store i 1 (by omega) (by omega) [120] (by simp) i (by rw [hfind, hfree]; rfl)
  have hfind1 : (d.put i (frame i 1 [120])).find i ((1 : Nat) : Int) = some i := by
    unfold DM.find
    refine firstIn_some (by rw [put_cap, h.fill.cap]; exact hi) ?_ fun j hj => ?_
    · rw [put_get, if_pos rfl, hasB_frame i 1 [120] (by omega) (by omega) (by simp)]; simp
    · rw [put_get, if_neg (by omega), h.fill.low j hj, roomF_has j (by omega)]; simp; omega
  obtain ⟨m2, e2, o2⟩ := o1.store i 1 (by omega) (by omega) [121] (by simp) i (by rw [hfind1]; rfl)
  have hf := h.few
  refine ⟨m1, _, e1, o1, by simp [DM.put]; omega, m2, _, e2, o2, ⟨h.fill.cap, fun j hj => ?_, fun j hj => ?_, h.fill.alive⟩, by simp [DM.put]; omega⟩
  · rw [put_get, put_get]
    by_cases e : i = j
    · rw [if_pos e, e]; rfl
    · rw [if_neg e, if_neg e]; exact h.fill.low j (by omega)
  · rw [put_get, put_get, if_neg (by omega), if_neg (by omega)]; exact h.fill.high j (by omega)

theorem RoomI.fin {n : Nat} {m : PM} {d : DM} (h : RoomI n n m d) (hn : n ≤ 20) (hn0 : 0 < n) (more : Nat) (hm : more < 256) :
    m.store 0 ((n + more : Nat) : Int) 1 [] = (3, m) ∧ m.calm ∧ ∃ m1, m.erase 0 ((more % n : Nat) : Int) 1 = (0, m1) ∧ m1.calm ∧ ∃ m2, m1.store 0 ((n + more : Nat) : Int) 1 [] = (0, m2) ∧ m2.calm ∧ m2.free 0 = 0 := by
  have hmod : more % n < n := Nat.mod_lt _ hn0
  have hfind : d.find ((n + more : Nat) : Int) ((1 : Nat) : Int) = none := h.fill.find_none _ _ fun j hj => by rw [roomF_has j (by omega)]; simp; omega
  have hfull : d.free1 = none := h.fill.full fun j hj => by rw [roomF_open j (by omega)]; rfl
  have e1 := h.one.full (n + more) 1 (by omega) (by omega) [] (by simp) (by rw [hfind, hfull]; rfl)
  have hf2 : d.find ((more % n : Nat) : Int) ((1 : Nat) : Int) = some (more % n) := h.fill.find_some _ _ _ hmod (Nat.le_refl _) (by rw [roomF_has _ (by omega)]; simp) fun j hj => by rw [roomF_has j (by omega)]; simp; omega
  obtain ⟨m1, e2, o2⟩ := h.one.erase _ _ _ hf2
  have hget : ∀ j, (d.put (more % n) []).get j = if more % n = j then [] else d.get j := fun j => put_get d (more % n) j []
  have hfind3 : (d.put (more % n) []).find ((n + more : Nat) : Int) ((1 : Nat) : Int) = none := by
    unfold DM.find
    refine firstIn_none fun j hj => ?_
    rw [put_cap, h.fill.cap] at hj
    rw [hget]
    split
    · exact hasB_nil _ _
    · rw [h.fill.low j hj, roomF_has j (by omega)]; simp; omega
  have hfree3 : (d.put (more % n) []).free1 = some (more % n) := by
    unfold DM.free1
    refine firstIn_some (by rw [put_cap, h.fill.cap]; exact hmod) (by rw [hget, if_pos rfl, openF_nil]; rfl) fun j hj => ?_
    rw [hget, if_neg (by omega), h.fill.low j (by omega), roomF_open j (by omega)]; rfl
  obtain ⟨m2, e3, o3⟩ := o2.store (n + more) 1 (by omega) (by omega) [] (by simp) (more % n) (by rw [hfind3, hfree3]; rfl)
  have hfw := h.few
  refine ⟨e1, h.one.calm (by omega), m1, e2, o2.calm (by simp [DM.put]; omega), m2, e3, o3.calm (by simp [DM.put]; omega), ?_⟩
  unfold PM.free
  rw [if_pos (by rw [o3.list]; simp)]
  change ((m2.get 0).cap : Int) - ((m2.get 0).held.length : Int) = 0
  rw [o3.get, put_cap, put_cap, h.fill.cap]
  unfold DM.held
  rw [heldTo_all]
  · rw [put_cap, put_cap, h.fill.cap]; omega
  · intro j hj
    rw [put_cap, put_cap, h.fill.cap] at hj
    rw [put_get]
    split
    · rw [openF_frame _ _ _ (by omega) (by omega) (by simp)]; rfl
    · rw [hget, if_neg (by omega), h.fill.low j hj, roomF_open j (by omega)]; rfl
end Go.Proofs.Fl

import Derived.Test.YtcekcgceeidcfaaP8
namespace Go.Proofs.Fl
open Go.RowKit

/-- All loose writes of a pool are not too many. -/
def PM.calm (m : PM) : Prop := ∀ i, i < m.list.length → (m.get i).loose.length ≤ 1000000000

theorem pool_store {w : World} {F T : Nat → Prop} {pb : Nat} {m : PM} (h : PoolAt w F pb m) (hk : m.calm) (n S K : Int) {v : Value} {b : Bytes} (hB : Bs w T v b) :
    Calls Try.prog 20 #[.pointer (some ⟨pb, 0, none⟩), .int .i64 n, .int .i64 S, .int .i64 K, v] w fun e w' => e = .returned (.int .i64 (m.store n S K b).1) ∧ PStep w F pb (m.store n S K b).2 w' := by
  obtain ⟨lv, dbs, G, h⟩ := h
  unfold PM.store
  by_cases hn : 0 ≤ n ∧ n < m.list.length
  · obtain ⟨i, rfl⟩ : ∃ i : Nat, n = i := ⟨n.toNat, by omega⟩
    have e : ((i : Int)).toNat = i := rfl
    rw [e]
    have hi : i < m.list.length := by omega
    by_cases ha : S < 0 ∨ 1073741824 < S ∨ K < 0 ∨ 255 < K ∨ 50 < b.length
    · rw [if_pos (.inr ha)]
      obtain ⟨ao, c, rfl⟩ := hB.shape
      refine (store_args i S K _ _ ao b.length c w (h.sel i hi) ⟨_, rfl⟩ ha).mono ?_
      rintro e w' ⟨rfl, rfl⟩
      exact ⟨rfl, h.pstep (Below.refl _ _)⟩
    · rw [if_neg (by rintro (h' | h'); exact h' hn; exact ha h')]
      obtain ⟨s, rfl⟩ : ∃ s : Nat, S = s := ⟨S.toNat, by omega⟩
      obtain ⟨k, rfl⟩ : ∃ k : Nat, K = k := ⟨K.toNat, by omega⟩
      exact store_go h i hi (hk i hi) s k (by omega) (by omega) hB (by omega) _ rfl
  · rw [if_pos (.inl hn)]
    refine (store_none n S K _ v w (h.nosel n hn)).mono ?_
    rintro e w' ⟨rfl, rfl⟩
    exact ⟨rfl, h.pstep (Below.refl _ _)⟩

def PM.load (m : PM) (n S K : Int) : Bytes × Nat :=
  if m.use n ≠ 0 then ([], m.use n) else match (m.get n.toNat).find S K with
    | none => ([], 7)
    | some j => (match openF ((m.get n.toNat).get j) with | none => [] | some (_, _, b) => b, 0)
def PM.erase (m : PM) (n S K : Int) : Nat × PM :=
  if m.use n ≠ 0 then (m.use n, m) else match (m.get n.toNat).find S K with
    | none => (7, m)
    | some j => m.write n.toNat j []
def PM.flush (m : PM) (n : Int) : Nat × PM :=
  if m.use n ≠ 0 then (m.use n, m) else if m.burn.1 then (0, m.burn.2.setD n.toNat ((m.get n.toNat).keep fun _ => true)) else (9, m.burn.2)

theorem use_cases (m : PM) (n : Int) : m.use n = 1 ∨ m.use n = 8 ∨ (m.use n = 0 ∧ ∃ i : Nat, n = i ∧ i < m.list.length ∧ (m.get i).lost = false) := by
  unfold PM.use
  by_cases hn : 0 ≤ n ∧ n < m.list.length
  · rw [if_pos hn]
    cases hl : (m.list.getD n.toNat dNone).lost with
    | true => exact .inr (.inl rfl)
    | false => exact .inr (.inr ⟨rfl, n.toNat, by omega, by omega, hl⟩)
  · rw [if_neg hn]; exact .inl rfl

/-- What Load answers. -/
def LoadP (w : World) (r : Bytes × Nat) (e : Ending) (w' : World) : Prop := ∃ v, e = .returned (.tuple #[v, .int .i64 r.2]) ∧ Bs w' (Fresh w) v r.1 ∧ Below w.heap.size w w'

set_option maxHeartbeats 1000000 in
set_option maxRecDepth 100000 in
theorem load_bad (pv : Value) (n S K : Int) (x : Nat) (hx : x = 1 ∨ x = 8) (w : World) (hu : Calls Try.prog 61 #[pv, .int .i64 n] w fun e w' => e = .returned (.int .i64 x) ∧ w = w') :
    Calls Try.prog 29 #[pv, .int .i64 n, .int .i64 S, .int .i64 K] w fun e w' => e = .returned (.tuple #[.slice none 0 0, .int .i64 x]) ∧ w = w' := by
  rcases hx with rfl | rfl
  all_goals
    go_enter Try.func29, Try.ntmps29
    go_wp2_with (go_at_call 61; refine hu.mono ?_; rintro e w1 ⟨rfl, rfl⟩)
    go_ret2
    exact ⟨rfl, rfl⟩

set_option maxHeartbeats 1000000 in
set_option maxRecDepth 100000 in
theorem erase_bad (pv : Value) (n S K : Int) (x : Nat) (hx : x = 1 ∨ x = 8) (w : World) (hu : Calls Try.prog 61 #[pv, .int .i64 n] w fun e w' => e = .returned (.int .i64 x) ∧ w = w') :
    Calls Try.prog 21 #[pv, .int .i64 n, .int .i64 S, .int .i64 K] w fun e w' => e = .returned (.int .i64 x) ∧ w = w' := by
  rcases hx with rfl | rfl
  all_goals
    go_enter Try.func21, Try.ntmps21
    go_wp2_with (go_at_call 61; refine hu.mono ?_; rintro e w1 ⟨rfl, rfl⟩)
    go_ret
    exact ⟨rfl, rfl⟩

set_option maxHeartbeats 1000000 in
set_option maxRecDepth 100000 in
theorem flush_bad (pv : Value) (n : Int) (x : Nat) (hx : x = 1 ∨ x = 8) (w : World) (hu : Calls Try.prog 61 #[pv, .int .i64 n] w fun e w' => e = .returned (.int .i64 x) ∧ w = w') :
    Calls Try.prog 26 #[pv, .int .i64 n] w fun e w' => e = .returned (.int .i64 x) ∧ w = w' := by
  rcases hx with rfl | rfl
  all_goals
    go_enter Try.func26, Try.ntmps26
    go_wp2_with (go_at_call 61; refine hu.mono ?_; rintro e w1 ⟨rfl, rfl⟩)
    go_ret
    exact ⟨rfl, rfl⟩

set_option maxHeartbeats 1000000 in
set_option maxRecDepth 100000 in
theorem pool_load {w : World} {F : Nat → Prop} {pb : Nat} {m : PM} (h : PoolAt w F pb m) (hk : m.calm) (n S K : Int) :
    Calls Try.prog 29 #[.pointer (some ⟨pb, 0, none⟩), .int .i64 n, .int .i64 S, .int .i64 K] w (LoadP w (m.load n S K)) := by
  have hus := pool_usable h n
  have hl : ∀ x, m.use n = x → x ≠ 0 → m.load n S K = ([], x) := fun x hx h0 => by unfold PM.load; rw [hx, if_pos h0]
  rcases use_cases m n with hu | hu | ⟨hu, i, rfl, hi, hlive⟩
  · rw [hu] at hus; rw [hl 1 hu (by decide)]
    refine (load_bad _ n S K 1 (.inl rfl) w hus).mono ?_
    rintro e w' ⟨rfl, rfl⟩
    exact ⟨_, rfl, Bs.nil _ _, Below.refl _ _⟩
  · rw [hu] at hus; rw [hl 8 hu (by decide)]
    refine (load_bad _ n S K 8 (.inr rfl) w hus).mono ?_
    rintro e w' ⟨rfl, rfl⟩
    exact ⟨_, rfl, Bs.nil _ _, Below.refl _ _⟩
  · rw [hu] at hus
    obtain ⟨lv, dbs, G, h⟩ := h
    have hfi := pool_find h i hi (hk i hi) S K
    change Calls Try.prog 62 _ w fun e w' => e = .returned (.int .i64 (idxV ((m.get i).find S K))) ∧ Below w.heap.size w w' at hfi
    have el : m.load i S K = match (m.get i).find S K with | none => ([], 7) | some j => (match openF ((m.get i).get j) with | none => [] | some (_, _, b) => b, 0) := by
      unfold PM.load; rw [if_neg (by simp [hu])]; rfl
    rw [el]
    have HH := Lib.hid h; have HI := Lib.hid hi; have HK := Lib.hid hk
    clear el hl hlive hu h hi hk
    cases hf : (m.get i).find S K with
    | none =>
      rw [hf] at hfi
      have HF := Lib.hid hfi
      clear hf hfi
      go_enter Try.func29, Try.ntmps29
      go_wp2_with (first | (go_at_call 61; refine hus.mono ?_; rintro e w1 ⟨rfl, rfl⟩) | (go_at_call 62; refine HF.out.mono ?_; rintro e w1 ⟨rfl, hb1⟩; simp only [idxV]))
      go_ret2
      exact ⟨_, rfl, Bs.nil _ _, hb1⟩
    | some j =>
      have hjc := find_lt hf
      have hhas : hasB S K ((m.get i).get j) = true := (firstIn_spec hf).2
      obtain ⟨s, p, b, ho⟩ : ∃ s p b, openF ((m.get i).get j) = some (s, p, b) := by
        unfold hasB at hhas
        cases ho : openF ((m.get i).get j) with
        | none => rw [ho] at hhas; cases hhas
        | some r => exact ⟨r.1, r.2.1, r.2.2, rfl⟩
      simp only [ho]
      rw [hf] at hfi
      have HF := Lib.hid hfi; have HO := Lib.hid ho
      clear hf hfi hhas ho
      have hj0 : ¬ ((j : Int) < 0) := by omega
      go_enter Try.func29, Try.ntmps29
      go_wp2_with (first | (go_at_call 61; refine hus.mono ?_; rintro e w1 ⟨rfl, rfl⟩) | (go_at_call 62; refine HF.out.mono ?_; rintro e w1 ⟨rfl, hb1⟩; simp only [idxV]))
      have h1 := HH.out.kept (Mod.of_below (fun _ => False) hb1) fun _ _ => id
      have hat := h1.at_ i HI.out
      refine (h1.sel i HI.out).mono ?_
      rintro e w2 ⟨rfl, rfl⟩
      have h64 := hat.get_le j hjc
      have hrd := drive_read hat j hjc (HK.out i HI.out)
      change ((m.get i).get j).length ≤ 64 at h64
      change Calls Try.prog 75 _ w1 fun e w' => ∃ v', e = .returned (.tuple #[v', .int .i64 0]) ∧ Bs w' (Fresh w1) v' ((m.get i).get j) ∧ Below w1.heap.size w1 w' at hrd
      have HRD := Lib.hid hrd
      clear h1 hat hrd
      go_wp2_with (fail)
      refine HRD.out.mono ?_
      rintro e w3 ⟨v3, rfl, hv3, hb3⟩
      obtain ⟨ao3, c3, rfl⟩ := hv3.shape
      go_wp2_with (go_at_call 72; refine (open_some hv3 (by omega) HO.out).mono ?_; rintro e w4 ⟨bv, rfl, hbv, hb4⟩)
      go_ret2
      refine ⟨_, rfl, hbv.mono fun k _ hk' => ?_, (hb1.trans (hb3.mono hb1.size)).trans (hb4.mono (Nat.le_trans hb1.size hb3.size))⟩
      have h1 := hb1.size; have h3 := hb3.size; simp only [Fresh] at hk' ⊢; omega
end Go.Proofs.Fl

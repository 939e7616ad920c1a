import Derived.Test.YtcekcgceeidcfaaP10
namespace Go.Proofs.Fl
open Go.RowKit

/-- how far drive i's bits are turned, to the left -/
def turnS (i : Nat) : Nat := (64 - 7 * i % 64) % 64
def rotN (x s : Nat) : Nat := (x * 2 ^ s % 18446744073709551616) ||| (x / 2 ^ (64 - s))
theorem rotN_le (x s : Nat) (hx : x ≤ 18446744073709551615) : rotN x s ≤ 18446744073709551615 := by
  unfold rotN
  have h1 : x * 2 ^ s % 18446744073709551616 < 2 ^ 64 := Nat.mod_lt _ (by decide)
  have h2 : x / 2 ^ (64 - s) < 2 ^ 64 := Nat.lt_of_le_of_lt (Nat.div_le_self _ _) (by omega)
  have := Nat.or_lt_two_pow h1 h2
  omega
theorem rot_eq (x s : Nat) (hx : x ≤ 18446744073709551615) : bits BinOp.or IntKind.u64 (IntKind.u64.wrap ((x : Int) * 2 ^ s)) ((x : Int) / 2 ^ (64 - s)) = (rotN x s : Int) := by
  have h1 : IntKind.u64.wrap ((x : Int) * 2 ^ s) = ((x * 2 ^ s % 18446744073709551616 : Nat) : Int) := by
    simp [IntKind.wrap, IntKind.bits, IntKind.signed]
  have h2 : (x : Int) / 2 ^ (64 - s) = ((x / 2 ^ (64 - s) : Nat) : Int) := by simp
  rw [h1, h2, u64_or_nat _ _ (Nat.mod_lt _ (by decide)) (Nat.lt_of_le_of_lt (Nat.div_le_self _ _) (by omega))]
  rfl
theorem turn_eq (i : Nat) (hi : i < 12) : bits BinOp.and IntKind.u64 (IntKind.u64.wrap (-7 * (i : Int))) 63 = (turnS i : Int) := by
  have h : ∀ i : Fin 12, bits BinOp.and IntKind.u64 (IntKind.u64.wrap (-7 * ((i : Nat) : Int))) 63 = (turnS i : Int) := by decide +kernel
  exact h ⟨i, hi⟩

set_option maxHeartbeats 1000000 in
set_option maxRecDepth 100000 in
theorem rot_any (x : Nat) (hx : x ≤ 18446744073709551615) (i : Nat) (hi : i < 12) (w : World) : Calls Try.prog 74 #[.int .u64 x, .int .i64 (-7 * (i : Int))] w fun e w' => e = .returned (.int .u64 (rotN x (turnS i))) ∧ w = w' := by
  have h1 := turn_eq i hi
  have h2 : turnS i ≤ 63 := by unfold turnS; omega
  have h3 := rot_eq x (turnS i) hx
  generalize turnS i = s at h1 h2 h3 ⊢
  have HX := Lib.hid hx; clear hx
  go_enter Try.func74, Try.ntmps74
  go_wp2
  go_ret
  exact ⟨rfl, rfl⟩

/-! Lasts -/
def DM.lastsB (d : DM) (S K : Int) : Bool := (firstIn (fun j => hasB S K (d.lasts.getD j [])) d.cap).isSome
def PM.lasts (m : PM) (n S K : Int) : Bool := if 0 ≤ n ∧ n < m.list.length then (m.get n.toNat).lastsB S K else false

theorem DriveAt.last_le {w : World} {F : Nat → Prop} {db : Nat} {d : DM} (h : DriveAt w F db d) : ∀ i, i < d.cap → (d.lasts.getD i []).length ≤ 64 := by
  intro i hi
  unfold DM.cap at hi
  rcases h.is with ⟨h1, h2, h3, h4, h5⟩ | ⟨h1, lb, ov, lvs, ovs, hl⟩
  · rw [h2] at hi; simp at hi
  · exact (hl.at_ i hi).2

set_option maxHeartbeats 1000000 in
set_option maxRecDepth 100000 in
theorem lasts_none (pv : Value) (n S K : Int) (w : World) (h30 : Calls Try.prog 30 #[pv, .int .i64 n] w fun e w' => e = .returned (.pointer none) ∧ w = w') :
    Calls Try.prog 27 #[pv, .int .i64 n, .int .i64 S, .int .i64 K] w fun e w' => e = .returned (.bool false) ∧ w = w' := by
  go_enter Try.func27, Try.ntmps27
  go_wp2_with (first | (go_at_call 30; refine h30.mono ?_; rintro e w1 ⟨rfl, rfl⟩) | (go_at_call 67; refine (cap_nil _).mono ?_; rintro e w1 ⟨rfl, rfl⟩))
  go_loop [22] (fun i => i = .int .i64 0) (fun _ => 0)
  case atStart => rfl
  case round =>
    subst hrel
    go_wp2
    go_ret
    exact ⟨rfl, rfl⟩

theorem ret_bool {a b : Bool} (h : a = b) : Ending.returned (.bool a) = .returned (.bool b) := by rw [h]

set_option maxHeartbeats 2000000 in
set_option maxRecDepth 100000 in
theorem lasts_some (pv : Value) (n S K : Int) (db : Nat) (F : Nat → Prop) (d : DM) (w : World) (h30 : Calls Try.prog 30 #[pv, .int .i64 n] w fun e w' => e = .returned (.pointer (some ⟨db, 0, none⟩)) ∧ w = w')
    (hD : DriveAt w F db d) : Calls Try.prog 27 #[pv, .int .i64 n, .int .i64 S, .int .i64 K] w fun e w' => e = .returned (.bool (d.lastsB S K)) ∧ Below w.heap.size w w' := by
  have HL := Lib.hid hD.last_le
  have hcap := hD.cap_le
  go_enter Try.func27, Try.ntmps27
  go_wp2_with (first | (go_at_call 30; refine h30.mono ?_; rintro e w1 ⟨rfl, rfl⟩) | (go_at_call 67; refine (drive_cap hD).mono ?_; rintro e w1 ⟨rfl, rfl⟩))
  go_loopw [22] (fun i wr => ∃ k : Nat, k ≤ d.cap ∧ i = .int .i64 k ∧ (∀ j, j < k → hasB S K (d.lasts.getD j []) = false) ∧ Below w.heap.size w wr)
    (fun i _ => d.cap - (intOf i).toNat)
  case atStart => exact ⟨0, by omega, rfl, by omega, Below.refl _ _⟩
  case round =>
    obtain ⟨k, hkc, rfl, hq, hb⟩ := hrel
    have HQ := Lib.hid hq; clear hq
    by_cases hlt : k < d.cap
    · have hDr := hD.below hb
      have hl64 := HL.out k hlt
      have hgo : hasB S K (d.lasts.getD k []) = false → ∀ j, j < k + 1 → hasB S K (d.lasts.getD j []) = false := fun h0 j hj => by
        by_cases e : j = k
        · subst e; exact h0
        · exact HQ.out j (by omega)
      have HGO := Lib.hid hgo; clear hgo
      have hrd := drive_lasts hDr k hlt
      clear hDr
      cases ho : openF (d.lasts.getD k []) with
      | none =>
        have hqk : hasB S K (d.lasts.getD k []) = false := by simp only [hasB, ho]
        have HO := Lib.hid ho; have HN := Lib.hid (HGO.out hqk); clear ho hqk
        generalize d.lasts.getD k [] = lk at hrd HO hl64
        go_wp2_with (fail)
        refine hrd.mono ?_
        rintro e w1 ⟨v1, rfl, hv1, hb1⟩
        obtain ⟨ao1, c1, rfl⟩ := hv1.shape
        go_wp2_with (go_at_call 72; refine (open_none hv1 (by omega) HO.out).mono ?_; rintro e w2 ⟨rfl, hb2⟩)
        have hb3 := (hb.trans (hb1.mono hb.size)).trans (hb2.mono (Nat.le_trans hb.size hb1.size))
        go_roundw
        case rel => exact ⟨k + 1, by omega, by go_num, HN.out, hb3⟩
        case measure => simp [intOf]; omega
      | some r =>
        obtain ⟨s, p, b⟩ := r
        have hqe : hasB S K (d.lasts.getD k []) = (((s : Int) == S) && ((p : Int) == K)) := by simp only [hasB, ho]
        have HO := Lib.hid ho; clear ho
        cases hqk : hasB S K (d.lasts.getD k []) with
        | false =>
          have HN := Lib.hid (HGO.out hqk)
          rw [hqk] at hqe
          have h12 : ¬ ((s : Int) = S) ∨ ((s : Int) = S ∧ ¬ ((p : Int) = K)) := by
            by_cases h1 : (s : Int) = S
            · by_cases h2 : (p : Int) = K
              · simp [h1, h2] at hqe
              · exact .inr ⟨h1, h2⟩
            · exact .inl h1
          clear hqe hqk
          generalize d.lasts.getD k [] = lk at hrd HO hl64
          rcases h12 with h1 | ⟨h1, h2⟩
          · go_wp2_with (fail)
            refine hrd.mono ?_
            rintro e w1 ⟨v1, rfl, hv1, hb1⟩
            obtain ⟨ao1, c1, rfl⟩ := hv1.shape
            go_wp2_with (go_at_call 72; refine (open_some hv1 (by omega) HO.out).mono ?_; rintro e w2 ⟨bv, rfl, hbv, hb2⟩)
            have hb3 := (hb.trans (hb1.mono hb.size)).trans (hb2.mono (Nat.le_trans hb.size hb1.size))
            go_roundw
            case rel => exact ⟨k + 1, by omega, by go_num, HN.out, hb3⟩
            case measure => simp [intOf]; omega
          · subst h1
            go_wp2_with (fail)
            refine hrd.mono ?_
            rintro e w1 ⟨v1, rfl, hv1, hb1⟩
            obtain ⟨ao1, c1, rfl⟩ := hv1.shape
            go_wp2_with (go_at_call 72; refine (open_some hv1 (by omega) HO.out).mono ?_; rintro e w2 ⟨bv, rfl, hbv, hb2⟩)
            have hb3 := (hb.trans (hb1.mono hb.size)).trans (hb2.mono (Nat.le_trans hb.size hb1.size))
            go_roundw
            case rel => exact ⟨k + 1, by omega, by go_num, HN.out, hb3⟩
            case measure => simp [intOf]; omega
        | true =>
          have hfin : d.lastsB S K = true := by unfold DM.lastsB; rw [firstIn_some hlt hqk HQ.out]; rfl
          rw [hqk] at hqe
          have h1 : (s : Int) = S := by simp at hqe; exact hqe.1
          have h2 : (p : Int) = K := by simp at hqe; exact hqe.2
          subst h1; subst h2
          have HFIN := Lib.hid hfin
          clear hqe hqk hfin
          generalize d.lasts.getD k [] = lk at hrd HO hl64
          go_wp2_with (fail)
          refine hrd.mono ?_
          rintro e w1 ⟨v1, rfl, hv1, hb1⟩
          obtain ⟨ao1, c1, rfl⟩ := hv1.shape
          go_wp2_with (go_at_call 72; refine (open_some hv1 (by omega) HO.out).mono ?_; rintro e w2 ⟨bv, rfl, hbv, hb2⟩)
          have hb3 := (hb.trans (hb1.mono hb.size)).trans (hb2.mono (Nat.le_trans hb.size hb1.size))
          go_ret
          exact ⟨ret_bool HFIN.out.symm, hb3⟩
    · obtain rfl : k = d.cap := by omega
      go_wp2
      go_ret
      exact ⟨ret_bool (by unfold DM.lastsB; rw [firstIn_none HQ.out]; rfl), hb⟩

theorem pool_lasts {w : World} {F : Nat → Prop} {pb : Nat} {m : PM} (h : PoolAt w F pb m) (n S K : Int) :
    Calls Try.prog 27 #[.pointer (some ⟨pb, 0, none⟩), .int .i64 n, .int .i64 S, .int .i64 K] w fun e w' => e = .returned (.bool (m.lasts n S K)) ∧ Below w.heap.size w w' := by
  obtain ⟨lv, dbs, G, h⟩ := h
  unfold PM.lasts
  by_cases hn : 0 ≤ n ∧ n < m.list.length
  · rw [if_pos hn]
    obtain ⟨i, rfl⟩ : ∃ i : Nat, n = i := ⟨n.toNat, by omega⟩
    exact lasts_some _ i S K _ _ _ w (h.sel i (by omega)) (h.at_ i (by omega))
  · rw [if_neg hn]
    refine (lasts_none _ n S K w (h.nosel n hn)).mono ?_
    rintro e w' ⟨rfl, rfl⟩
    exact ⟨rfl, Below.refl _ _⟩
end Go.Proofs.Fl

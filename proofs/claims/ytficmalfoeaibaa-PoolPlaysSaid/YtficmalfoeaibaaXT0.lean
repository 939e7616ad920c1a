import Derived.Test.YtficmalfoeaibaaXG1
namespace Go.Proofs.Fl
open Go.RowKit

theorem below_drewN {B : Nat} {a w : World} (h : Below B a w) (n : Nat) : Below B a (w.drewN n) := ⟨h.os, h.tape, h.output, h.size, h.block⟩
theorem bytes_ne {a b : Bytes} (_hl : a.length = b.length) {j : Nat} (_hj : j < a.length) (h : ¬ (a.getD j 0).toNat = (b.getD j 0).toNat) : a ≠ b := by
  intro e; subst e; exact h rfl
theorem bytes_eq {a b : Bytes} (hl : a.length = b.length) (h : ∀ j, j < a.length → (a.getD j 0).toNat = (b.getD j 0).toNat) : a = b := by
  apply List.ext_getElem hl
  intro i h1 h2
  have := UInt8.toNat.inj (h i h1)
  simpa [List.getD_eq_getElem?_getD, List.getElem?_eq_getElem h1, List.getElem?_eq_getElem h2] using this

set_option maxHeartbeats 1000000 in
set_option maxRecDepth 100000 in
/-- Same: are two slices of bytes the same? -/
theorem same_any {S T : Nat → Prop} {va vb : Value} {a b : Bytes} {w : World} (hA : Bs w S va a) (hB : Bs w T vb b) (ha : a.length ≤ 1000000) (_hb : b.length ≤ 1000000) :
    Calls Try.prog 35 #[va, vb] w fun e w' => e = .returned (.bool (decide (a = b))) ∧ Below w.heap.size w w' := by
  obtain ⟨aa, ca, rfl⟩ := hA.shape
  obtain ⟨ab, cb, rfl⟩ := hB.shape
  by_cases hl : a.length = b.length
  · by_cases h0 : a.length = 0
    · have e : a = b := by rw [List.length_eq_zero_iff.1 h0, List.length_eq_zero_iff.1 (show b.length = 0 by omega)]
      have hli : (a.length : Int) = b.length := by omega
      have h0i : (b.length : Int) = 0 := by omega
      rw [decide_eq_true e]
      clear hA hB hl e
      go_enter Try.func35, Try.ntmps35
      go_wp2
      go_loop [5] (fun i => i = .int .i64 0) (fun _ => 0)
      case atStart => rfl
      case round =>
        obtain rfl := hrel
        go_wp2
        go_ret
        exact ⟨rfl, Below.refl _ _⟩
    · obtain ⟨b1, o1, c1, e1, _, hb1, hc1⟩ := hA.cellAt (by omega)
      obtain ⟨b2, o2, c2, e2, _, hb2, hc2⟩ := hB.cellAt (by omega)
      injection e1 with e1 _ _; injection e2 with e2 _ _
      subst e1; subst e2
      have HC1 := Lib.hid hc1; have HC2 := Lib.hid hc2; have HL := Lib.hid hl
      rw [← hl]
      clear hA hB hc1 hc2 hl
      go_enter Try.func35, Try.ntmps35
      go_wp2
      go_loopw [5] (fun i wr => ∃ j : Nat, j ≤ a.length ∧ i = .int .i64 j ∧ (∀ q, q < j → (a.getD q 0).toNat = (b.getD q 0).toNat) ∧ Below w.heap.size w wr) (fun i _ => a.length - (intOf i).toNat)
      case atStart => exact ⟨0, by omega, rfl, fun q hq => absurd hq (Nat.not_lt_zero q), Below.refl _ _⟩
      case round =>
        obtain ⟨j, hj, rfl, hq, hbr⟩ := hrel
        have HQ := Lib.hid hq
        clear hq
        by_cases hlt : j < a.length
        · have x1 := (hbr.cell (p := ⟨b1, o1 + j, none⟩) hb1).trans (HC1.out j hlt)
          have x2 := (hbr.cell (p := ⟨b2, o2 + j, none⟩) hb2).trans (HC2.out j (by rw [← HL.out]; exact hlt))
          by_cases hx : (a.getD j 0).toNat = (b.getD j 0).toNat
          · have hxi : ((a.getD j 0).toNat : Int) = (b.getD j 0).toNat := by omega
            have HX := Lib.hid (show ∀ q, q < j + 1 → (a.getD q 0).toNat = (b.getD q 0).toNat from fun q hq => by
              by_cases e : q = j
              · subst e; exact hx
              · exact HQ.out q (by omega))
            clear hx
            generalize (a.getD j 0).toNat = x at *
            generalize (b.getD j 0).toNat = y at *
            go_wp2
            go_quiet (fail)
            go_wp2
            go_roundw
            case rel => exact ⟨j + 1, by omega, by go_num, HX.out, below_drewN hbr _⟩
            case measure => simp [intOf]; omega
          · have hxi : ¬ ((a.getD j 0).toNat : Int) = (b.getD j 0).toNat := by omega
            have hne := bytes_ne HL.out hlt hx
            have HNE := Lib.hid hne
            clear hne hx
            generalize (a.getD j 0).toNat = x at *
            generalize (b.getD j 0).toNat = y at *
            go_wp2
            go_quiet (fail)
            go_wp2
            go_ret
            exact ⟨by rw [decide_eq_false HNE.out]; rfl, below_drewN hbr _⟩
        · obtain rfl : j = a.length := by omega
          have e : a = b := bytes_eq HL.out (fun i hi => HQ.out i hi)
          have HE := Lib.hid e
          clear e
          go_wp2
          go_ret
          exact ⟨by rw [decide_eq_true HE.out]; rfl, hbr⟩
  · have e : a ≠ b := fun e => hl (by rw [e])
    have hli : ¬ (a.length : Int) = b.length := by omega
    rw [decide_eq_false e]
    clear hA hB hl e
    go_enter Try.func35, Try.ntmps35
    go_wp2
    go_ret
    exact ⟨rfl, Below.refl _ _⟩
end Go.Proofs.Fl

import Derived.Test.YtficmalfoeaibaaXS6
namespace Go.Proofs.Fl
open Go.RowKit

set_option maxHeartbeats 400000 in
set_option maxRecDepth 100000 in
theorem read_bad2 (pv : Value) (k m : Int) (id ep : Int) (ao : Option Addr) (n c : Nat) (w : World) (hn : ¬ (n : Int) = wrap64 (k + m)) :
    Calls Try.prog 46 #[pv, .int .i64 k, .int .i64 m, stripeV id ep (.slice ao n c)] w fun e w' => e = .returned (.tuple #[.slice none 0 0, .int .i64 1]) ∧ Below w.heap.size w w' := by
  have hbx : Below w.heap.size w (w.alloc (.cells #[.int .i64 id, .int .i64 ep, .slice ao n c] 67)) := (Below.refl _ _).alloc (Nat.le_refl _) _
  unfold stripeV
  go_enter Try.func46, Try.ntmps46
  go_wp2
  go_ret2
  exact ⟨rfl, hbx⟩
set_option maxHeartbeats 400000 in
set_option maxRecDepth 100000 in
theorem one_bad2 (pv : Value) (k m : Int) (id ep : Int) (ao : Option Addr) (n c : Nat) (a : Int) (w : World) (hn : ¬ (n : Int) = wrap64 (k + m)) :
    Calls Try.prog 49 #[pv, .int .i64 k, .int .i64 m, stripeV id ep (.slice ao n c), .int .i64 a] w fun e w' => e = .returned (.tuple #[.slice none 0 0, .int .i64 1]) ∧ Below w.heap.size w w' := by
  have hbx : Below w.heap.size w (w.alloc (.cells #[.int .i64 id, .int .i64 ep, .slice ao n c] 67)) := (Below.refl _ _).alloc (Nat.le_refl _) _
  unfold stripeV
  go_enter Try.func49, Try.ntmps49
  go_wp2
  go_ret2
  exact ⟨rfl, hbx⟩
set_option maxHeartbeats 1000000 in
set_option maxRecDepth 100000 in
theorem args_law (k m : Int) (ao : Option Addr) (n c : Nat) (a : Int) (w : World) (hn0 : n ≤ maxLen) :
    Calls Try.prog 11 #[.int .i64 k, .int .i64 m, .slice ao n c, .int .i64 a] w fun e w' => e = .returned (.bool true) ∧ Below w.heap.size w w' := by
  have hni : (n : Int) ≤ 9223372036854775807 := by unfold maxLen at hn0; omega
  have hA := answers15 w
  by_cases hbig : 20 < n
  · have hbi : (20 : Int) < (n : Int) := by omega
    clear hn0
    go_enter Try.func11, Try.ntmps11
    go_wp2_with (go_at_call 44; refine hA.mono ?_; rintro e w1 ⟨rfl, hb1⟩)
    go_ret
    exact ⟨rfl, hb1⟩
  · have hbi : ¬ (20 : Int) < (n : Int) := by omega
    clear hn0
    by_cases hn : (n : Int) = wrap64 (k + m)
    · go_enter Try.func11, Try.ntmps11
      go_wp2_with (go_at_call 44; refine hA.mono ?_; rintro e w1 ⟨rfl, hb1⟩)
      go_ret
      exact ⟨rfl, hb1⟩
    · clear hA
      have HN := Lib.hid hn
      go_enter Try.func11, Try.ntmps11
      go_wp2_with (fail)
      refine (L_new w w (Below.refl _ _)).mono ?_
      rintro e w1 ⟨pb, rfl, h1⟩
      go_wp2_with (fail)
      refine (L_add (m := M0) h1 4 (by decide)).mono ?_
      rintro e w2 ⟨rfl, h2⟩
      have hb2 := h2.below
      have HB2 := Lib.hid hb2
      clear h1 h2 hb2
      go_wp2_with (fail)
      refine (read_bad2 _ k m 0 0 ao n c w2 HN.out).mono ?_
      rintro e w3 ⟨rfl, hb3⟩
      have hb3' := HB2.out.trans (hb3.mono HB2.out.size)
      have HB3 := Lib.hid hb3'
      clear hb3 hb3'
      go_wp2_with (fail)
      refine (one_bad2 _ k m 0 0 ao n c a w3 HN.out).mono ?_
      rintro e w4 ⟨rfl, hb4⟩
      have hb4' := HB3.out.trans (hb4.mono HB3.out.size)
      have HB4 := Lib.hid hb4'
      clear hb4 hb4'
      go_wp2_with (go_at_call 44; refine (answers15 w4).mono ?_; rintro e w5 ⟨rfl, hb5⟩)
      go_ret
      exact ⟨rfl, HB4.out.trans (hb5.mono HB4.out.size)⟩
end Go.Proofs.Fl

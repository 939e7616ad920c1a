import Derived.Test.YtcekcgceeidcfaaR5
namespace Go.Proofs.Fl
open Go.RowKit

set_option maxHeartbeats 2000000 in
set_option maxRecDepth 100000 in
theorem lasts_law (S K x : Nat) (hS : S ≤ 65535) (hK : K ≤ 255) (hx : x ≤ 18446744073709551615) (w : World) :
    Calls Try.prog 5 #[.int .u16 S, .int .u8 K, .int .u64 x] w fun e w' => e = .returned (.bool true) ∧ Below w.heap.size w w' := by
  have kc := fun (w : World) (C : Array Value) (n c : Nat) => Lib.run_convert_bytes_const (P := Try.prog) w 28 5 C n c Try.underlying28 Try.underlying5
  have P1 := Lib.hid (PL1 S K hS hK)
  have P2 := Lib.hid (PL2 S K)
  have P4 := Lib.hid (PL4 (frame S K [120]))
  have P5 := Lib.hid (PL5 S K hS hK)
  have P6 := Lib.hid (PL6 S K hS hK)
  have P7 := Lib.hid (PL7 S K hS hK (Le (frame S K [120])) rfl)
  have P8 := Lib.hid (PL8 S K x hS hK)
  have hbit : ((x : Int) / 2 ^ 7) % 2 = if x.testBit 7 then 1 else 0 := by
    rw [Nat.testBit_eq_decide_div_mod_eq]
    by_cases h : x / 2 ^ 7 % 2 = 1
    · simp [h]; omega
    · simp [h]; omega
  have HX := Lib.hid hx; clear hx
  cases hb : x.testBit 7
  all_goals
    rw [hb] at hbit P8
    simp only [Bool.false_eq_true, if_false, if_true] at hbit
    rw [show (2 : Int) ^ 7 = 128 from rfl] at hbit
    go_enter Try.func5, Try.ntmps5
    go_wp2_with (fail)
    refine (L_new w w (Below.refl _ _)).mono ?_
    rintro e w1 ⟨pb, rfl, h1⟩
    go_wp2_with (fail)
    refine (L_add h1 3 (by decide)).mono ?_
    rintro e w2 ⟨rfl, h2⟩
    go_wp2_with (fail)
    refine (L_add h2 3 (by decide)).mono ?_
    rintro e w3 ⟨rfl, h3⟩
    change PoolL w w3 pb (two e3) at h3
    clear h1 h2
    go_wp2_with (fail)
    refine (L_store (h3.ext ((Below.refl _ _).alloc (Nat.le_refl _) _)) (two_calm _ (by decide)) 1 S K (Bs.lit w3 _ _ _ [120] rfl (by decide))).mono ?_
    rintro e w4 ⟨rfl, h4⟩
    rw [P1.out] at h4 ⊢
    clear h3
    go_wp2_with (fail)
    refine (L_lasts h4 1 S K).mono ?_
    rintro e w5 ⟨rfl, h5⟩
    rw [P2.out]
    clear h4
    go_wp2_with (fail)
    refine (L_flush h5 (two_calm _ (by simp [Lw])) 0).mono ?_
    rintro e w6 ⟨rfl, h6⟩
    rw [PL3 (Lw (frame S K [120])) rfl] at h6 ⊢
    clear h5
    go_wp2_with (fail)
    refine (L_lasts h6 1 S K).mono ?_
    rintro e w7 ⟨rfl, h7⟩
    rw [P2.out]
    clear h6
    go_wp2_with (fail)
    refine (L_flush h7 (two_calm _ (by simp [Lw])) 1).mono ?_
    rintro e w8 ⟨rfl, h8⟩
    rw [P4.out] at h8 ⊢
    clear h7
    go_wp2_with (fail)
    refine (L_lasts h8 1 S K).mono ?_
    rintro e w9 ⟨rfl, h9⟩
    rw [two_last, P5.out]
    clear h8
    go_wp2_with (fail)
    refine (L_erase h9 (two_calm _ (by simp [Lf])) 1 S K).mono ?_
    rintro e w10 ⟨rfl, h10⟩
    rw [P6.out] at h10 ⊢
    clear h9
    go_wp2_with (fail)
    refine (L_lasts h10 1 S K).mono ?_
    rintro e w11 ⟨rfl, h11⟩
    rw [two_last, P7.out]
    clear h10
    go_wp2_with (fail)
    refine (L_crash h11 (two_calm _ (by simp [Le])) x HX.out).mono ?_
    rintro e w12 ⟨rfl, h12⟩
    clear h11
    go_wp2_with (fail)
    refine (L_lasts h12 1 S K).mono ?_
    rintro e w13 ⟨rfl, h13⟩
    rw [P8.out]
    clear h12
    go_wp2_with (go_at_call 22; refine (answers08 _).mono ?_; rintro e w14 ⟨rfl, hb14⟩)
    go_ret
    exact ⟨rfl, h13.below.trans (hb14.mono h13.below.size)⟩
end Go.Proofs.Fl

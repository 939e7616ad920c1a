import Derived.Test.YtficmalfoeaibaaXG2toG4
import Derived.Test.YtficmalfoeaibaaXP0toP4
namespace Go.Proofs.Fl
open Go.RowKit

/-! ### the reference's product -/
def rmulA (a b : Nat) : Nat → Nat
  | 0 => 0
  | i + 1 => if b / 2 ^ i % 2 = 1 then rmulA a b i ^^^ a * 2 ^ i else rmulA a b i
def rmulB (v : Nat) : Nat → Nat
  | 0 => v
  | j + 1 => if rmulB v j / 2 ^ (14 - j) % 2 = 1 then rmulB v j ^^^ 285 * 2 ^ (14 - j - 8) else rmulB v j
def rmul (a b : UInt8) : UInt8 := UInt8.ofNat (rmulB (rmulA a.toNat b.toNat 8) 7)

theorem i64_xor_nat (a b : Nat) (ha : a < 32768) (hb : b < 32768) : bits .xor .i64 (a : Int) (b : Int) = ((a ^^^ b : Nat) : Int) := by
  have hx : a ^^^ b < 2 ^ 15 := Nat.xor_lt_two_pow (by omega) (by omega)
  have e : ∀ n : Nat, n < 32768 → (BitVec.ofInt 64 (n : Int)).toNat = n := fun n hn => by
    rw [BitVec.ofInt_natCast, BitVec.toNat_ofNat]; exact Nat.mod_eq_of_lt (by omega)
  show IntKind.i64.wrap ((BitVec.ofInt 64 (a : Int) ^^^ BitVec.ofInt 64 (b : Int)).toNat : Int) = _
  rw [BitVec.toNat_xor, e a ha, e b hb, IntKind.wrap_i64]
  omega
theorem rmulA_lt (a b k : Nat) (ha : a < 256) (hk : k ≤ 8) : rmulA a b k < 32768 := by
  induction k with
  | zero => exact Nat.zero_lt_of_lt (by decide : 0 < 32768)
  | succ k ih =>
    have h := ih (by omega)
    unfold rmulA
    split
    · have h2 : a * 2 ^ k < 32768 := by
        have : 2 ^ k ≤ 2 ^ 7 := Nat.pow_le_pow_right (by decide) (by omega)
        have := Nat.mul_le_mul (Nat.le_of_lt_succ ha) this
        omega
      exact Nat.xor_lt_two_pow (n := 15) h h2
    · exact h
theorem pow285 (j : Nat) : 285 * 2 ^ (14 - j - 8) < 32768 := by
  have : 2 ^ (14 - j - 8) ≤ 2 ^ 6 := Nat.pow_le_pow_right (by decide) (by omega)
  omega
theorem rmulB_lt (v j : Nat) (hv : v < 32768) : rmulB v j < 32768 := by
  induction j with
  | zero => exact hv
  | succ j ih =>
    unfold rmulB
    split
    · exact Nat.xor_lt_two_pow (n := 15) ih (pow285 j)
    · exact ih

theorem tm2 (n k : Nat) : ((n : Int) / 2 ^ k).tmod 2 = ((n / 2 ^ k % 2 : Nat) : Int) := by
  have e : ((2 : Int) ^ k) = ((2 ^ k : Nat) : Int) := by simp
  rw [e, ← Int.natCast_ediv, Int.tmod_eq_emod_of_nonneg (Int.natCast_nonneg _), Int.natCast_emod]
  rfl
theorem wrapS (a k : Nat) (h : a * 2 ^ k < 32768) : wrap64 ((a : Int) * 2 ^ k) = ((a * 2 ^ k : Nat) : Int) := by
  have e : ((2 : Int) ^ k) = ((2 ^ k : Nat) : Int) := by simp
  rw [e, ← Int.natCast_mul]
  unfold wrap64
  omega

set_option maxHeartbeats 800000 in
set_option maxRecDepth 100000 in
theorem rmul_any (a b : UInt8) (w : World) : Calls Try.prog 122 #[.int .u8 a.toNat, .int .u8 b.toNat] w fun e w' => e = .returned (.int .u8 (rmul a b).toNat) ∧ w = w' := by
  go_enter Try.func122, Try.ntmps122
  go_wp2
  go_loop [5, 6] (fun v i => ∃ k : Nat, k ≤ 8 ∧ i = .int .i64 k ∧ v = .int .i64 (rmulA a.toNat b.toNat k))
    (fun _ i => 8 - (intOf i).toNat)
  case atStart => exact ⟨0, by omega, rfl, rfl⟩
  case round =>
    obtain ⟨k, hk, rfl, rfl⟩ := hrel
    by_cases hlt : k < 8
    · have hb := b.toNat_lt
      have ha := a.toNat_lt
      have hs : rmulA a.toNat b.toNat (k + 1) = if b.toNat / 2 ^ k % 2 = 1 then rmulA a.toNat b.toNat k ^^^ a.toNat * 2 ^ k else rmulA a.toNat b.toNat k := rfl
      have hvl := rmulA_lt a.toNat b.toNat k ha (by omega)
      have hpl : a.toNat * 2 ^ k < 32768 := by
        have : 2 ^ k ≤ 2 ^ 7 := Nat.pow_le_pow_right (by decide) (by omega)
        have := Nat.mul_le_mul (Nat.le_of_lt_succ ha) this
        omega
      have hwr := wrapS a.toNat k hpl
      have hxr := i64_xor_nat _ _ hvl hpl
      have htm := tm2 b.toNat k
      generalize rmulA a.toNat b.toNat k = v at *
      have HS := Lib.hid hs; have HW := Lib.hid hwr; have HX := Lib.hid hxr; have HT := Lib.hid htm
      clear hs hwr hxr htm hvl hpl
      by_cases ht : b.toNat / 2 ^ k % 2 = 1
      · have hs := HS.out
        rw [if_pos ht] at hs
        have hti : ((b.toNat : Int) / 2 ^ k).tmod 2 = 1 := by rw [HT.out, ht]; rfl
        have HS2 := Lib.hid hs
        clear ht hs
        go_wp2
        go_round
        case rel => exact ⟨k + 1, by omega, by go_num, by rw [HS2.out, ← HX.out, ← HW.out]⟩
        case measure => simp [intOf]; omega
      · have hs := HS.out
        rw [if_neg ht] at hs
        have hti : ((b.toNat : Int) / 2 ^ k).tmod 2 = 0 := by rw [HT.out, show b.toNat / 2 ^ k % 2 = 0 by omega]; rfl
        have HS2 := Lib.hid hs
        clear ht hs
        go_wp2
        go_round
        case rel => exact ⟨k + 1, by omega, by go_num, by rw [HS2.out]⟩
        case measure => simp [intOf]; omega
    · obtain rfl : k = 8 := by omega
      go_wp2
      have hv0 := rmulA_lt a.toNat b.toNat 8 a.toNat_lt (Nat.le_refl _)
      obtain ⟨v0, hv⟩ : ∃ v0, rmulA a.toNat b.toNat 8 = v0 := ⟨_, rfl⟩
      rw [hv] at hv0 ⊢
      have HV := Lib.hid hv
      clear hv
      go_loop [5, 7] (fun v i => ∃ j : Nat, j ≤ 7 ∧ i = .int .i64 (14 - (j : Int)) ∧ v = .int .i64 (rmulB v0 j))
        (fun _ i => ((intOf i) - 7).toNat)
      case atStart => exact ⟨0, by omega, rfl, rfl⟩
      case round =>
        obtain ⟨j, hj, rfl, rfl⟩ := hrel
        by_cases hlt2 : j < 7
        · have hs : rmulB v0 (j + 1) = if rmulB v0 j / 2 ^ (14 - j) % 2 = 1 then rmulB v0 j ^^^ 285 * 2 ^ (14 - j - 8) else rmulB v0 j := rfl
          have hvl := rmulB_lt v0 j hv0
          have hwr := wrapS 285 (14 - j - 8) (pow285 j)
          have hxr := i64_xor_nat _ _ hvl (pow285 j)
          have htm := tm2 (rmulB v0 j) (14 - j)
          generalize rmulB v0 j = v at *
          have HS := Lib.hid hs; have HW := Lib.hid hwr; have HX := Lib.hid hxr; have HT := Lib.hid htm
          clear hs hwr hxr htm hvl
          by_cases ht : v / 2 ^ (14 - j) % 2 = 1
          · have hs := HS.out
            rw [if_pos ht] at hs
            have hti : ((v : Int) / 2 ^ (14 - j)).tmod 2 = 1 := by rw [HT.out, ht]; rfl
            have HS2 := Lib.hid hs
            clear ht hs
            go_wp2
            go_round
            case rel => exact ⟨j + 1, by omega, by go_num, by rw [HS2.out, ← HX.out, ← HW.out]; rfl⟩
            case measure => simp [intOf]; omega
          · have hs := HS.out
            rw [if_neg ht] at hs
            have hti : ((v : Int) / 2 ^ (14 - j)).tmod 2 = 0 := by rw [HT.out, show v / 2 ^ (14 - j) % 2 = 0 by omega]; rfl
            have HS2 := Lib.hid hs
            clear ht hs
            go_wp2
            go_round
            case rel => exact ⟨j + 1, by omega, by go_num, by rw [HS2.out]⟩
            case measure => simp [intOf]; omega
        · obtain rfl : j = 7 := by omega
          generalize hv7 : rmulB v0 7 = v at *
          have HV7 := Lib.hid hv7
          clear hv7
          go_wp2
          go_ret
          refine ⟨?_, rfl⟩
          unfold rmul
          rw [HV.out, HV7.out]
          simp
end Go.Proofs.Fl

namespace Go.Proofs.Fl
open Go.RowKit

def rinv (a : UInt8) : UInt8 := UInt8.ofNat ((firstIn (fun i => rmul a (UInt8.ofNat i) == 1) 256).getD 0)
theorem u8_mod (k : Nat) (h : k < 256) : ((UInt8.ofNat k).toNat : Int) = (k : Int) := by simp; omega

set_option maxHeartbeats 800000 in
set_option maxRecDepth 100000 in
theorem rinv_any (a : UInt8) (w : World) : Calls Try.prog 124 #[.int .u8 a.toNat] w fun e w' => e = .returned (.int .u8 (rinv a).toNat) ∧ w = w' := by
  go_enter Try.func124, Try.ntmps124
  go_wp2
  go_loop [3] (fun i => ∃ k : Nat, k ≤ 256 ∧ i = .int .i64 k ∧ (∀ j, j < k → (rmul a (UInt8.ofNat j) == 1) = false))
    (fun i => 256 - (intOf i).toNat)
  case atStart => exact ⟨0, by omega, rfl, fun j hj => absurd hj (Nat.not_lt_zero j)⟩
  case round =>
    obtain ⟨k, hk, rfl, hq⟩ := hrel
    have HQ := Lib.hid hq
    clear hq
    by_cases hlt : k < 256
    · have hm := u8_mod k hlt
      have HM := Lib.hid hm
      clear hm
      cases hc : (rmul a (UInt8.ofNat k) == 1) with
      | true =>
        have h1 : rmul a (UInt8.ofNat k) = 1 := by simpa using hc
        have HC := Lib.hid hc; have H1 := Lib.hid h1
        clear hc h1
        go_wp2_with (fail)
        have hr := rmul_any a (UInt8.ofNat k) w
        rw [HM.out] at hr
        refine hr.mono ?_
        rintro e w1 ⟨rfl, rfl⟩
        rw [H1.out]
        go_wp2
        go_ret
        refine ⟨?_, rfl⟩
        unfold rinv
        rw [firstIn_some hlt HC.out HQ.out, Option.getD_some, HM.out]
        rfl
      | false =>
        have h1 : ¬ ((rmul a (UInt8.ofNat k)).toNat : Int) = 1 := by
          intro e
          have e2 : rmul a (UInt8.ofNat k) = 1 := UInt8.toNat.inj ((show (rmul a (UInt8.ofNat k)).toNat = 1 by omega).trans rfl)
          rw [e2] at hc
          cases hc
        have HC := Lib.hid hc
        clear hc
        go_wp2_with (fail)
        have hr := rmul_any a (UInt8.ofNat k) w
        rw [HM.out] at hr
        refine hr.mono ?_
        rintro e w1 ⟨rfl, rfl⟩
        obtain ⟨z, hz⟩ : ∃ z, rmul a (UInt8.ofNat k) = z := ⟨_, rfl⟩
        rw [hz] at h1 ⊢
        clear hz
        go_wp2
        go_round
        case rel => exact ⟨k + 1, by omega, by go_num, fun j hj => by
          by_cases e : j = k
          · subst e; exact HC.out
          · exact HQ.out j (by omega)⟩
        case measure => simp [intOf]; omega
    · obtain rfl : k = 256 := by omega
      go_wp2
      go_ret
      refine ⟨?_, rfl⟩
      unfold rinv
      rw [firstIn_none HQ.out]
      rfl
theorem rinv_small : ∀ x : Fin 8, rinv (UInt8.ofNat x.val) = ginv (UInt8.ofNat x.val) := by decide +kernel
end Go.Proofs.Fl

import Derived.Test.YtcekcgceeidcfaaR1
import Derived.Test.YtcekcgceeidcfaaQ2
namespace Go.Proofs.Fl
open Go.RowKit

set_option maxHeartbeats 2000000 in
set_option maxRecDepth 100000 in
theorem fuse_law (n t : Nat) (hn : n < 256) (ht : t < 256) (w : World) : Calls Try.prog 4 #[.int .u8 n, .int .u8 t] w fun e w' => e = .returned (.bool true) ∧ Below w.heap.size w w' := by
  obtain ⟨k, hk⟩ : ∃ k, k = n % 12 := ⟨_, rfl⟩
  obtain ⟨r, hr⟩ : ∃ r, r = t % 16 := ⟨_, rfl⟩
  have hkl : k < 12 := by omega
  have hrl : r < 16 := by omega
  have e1 : (n : Int) % 12 = (k : Int) := by omega
  have e2 : (t : Int) % 16 = (r : Int) := by omega
  clear hk hr
  go_enter Try.func4, Try.ntmps4
  go_wp2_with (fail)
  refine (L_new w w (Below.refl _ _)).mono ?_
  rintro e w1 ⟨pb, rfl, h1⟩
  go_wp2_with (fail)
  refine (L_add h1 20 (by decide)).mono ?_
  rintro e w2 ⟨rfl, h2⟩
  go_wp2_with (fail)
  refine (L_fuse h2 k (by omega)).mono ?_
  rintro e w3 ⟨rfl, h3⟩
  clear h1 h2
  have hI := FuI.start k hkl
  generalize ({ (PM.add ⟨[], -1, false⟩ 20) with fuse := if 0 ≤ (k : Int) then (k : Int) else 0 } : PM) = m0 at h3 hI
  go_wp2_with (fail)
  go_loopw [8] (fun i wr => ∃ (j : Nat) (m : PM), j ≤ r ∧ i = .int .i64 j ∧ FuI k j m ∧ PoolL w wr pb m)
    (fun i _ => r - (intOf i).toNat)
  case atStart => exact ⟨0, m0, by omega, rfl, hI, h3⟩
  case round =>
    clear hI h3
    obtain ⟨j, m, hj, rfl, hI, hP⟩ := hrel
    by_cases hlt : j < r
    · obtain ⟨m', hst, hI'⟩ := hI.step hkl (by omega)
      have hs := L_store hP (hI.calm (by omega)) 0 j 0 (Bs.nil wr (fun _ => False))
      rw [hst] at hs
      by_cases hjk : j < k
      · rw [if_pos hjk] at hs
        have hjk' : (j : Int) < (k : Int) := by omega
        clear hst
        go_wp2_with (fail)
        refine hs.mono ?_
        rintro e w4 ⟨rfl, h4⟩
        clear hs hP hI
        go_wp2
        go_roundw
        case rel => exact ⟨j + 1, m', by omega, by go_num, hI', h4⟩
        case measure => simp [intOf]; omega
      · rw [if_neg hjk] at hs
        have hjk' : ¬ (j : Int) < (k : Int) := by omega
        clear hst
        go_wp2_with (fail)
        refine hs.mono ?_
        rintro e w4 ⟨rfl, h4⟩
        clear hs hP hI
        go_wp2
        go_roundw
        case rel => exact ⟨j + 1, m', by omega, by go_num, hI', h4⟩
        case measure => simp [intOf]; omega
    · obtain rfl : j = r := by omega
      have hcalm := hI.calm (by omega)
      have hhe := hI.held hkl (by omega)
      by_cases hjk : k < j
      · have hjk' : (k : Int) < (j : Int) := by omega
        have hfl := hI.flush hjk
        rw [show min j k = k by omega] at hhe
        have HH := Lib.hid hhe; have HF := Lib.hid hfl; have HC := Lib.hid hcalm; clear hhe hfl hcalm
        go_wp2_with (first
          | (go_at_call 22; refine (answers08 _).mono ?_; rintro e w5 ⟨rfl, hb5⟩; have h5 := hP.ext hb5)
          | (go_at_call 25; refine (L_held h5 HC.out 0).mono ?_; rintro e w6 ⟨v6, rfl, ⟨a6, c6, rfl, _⟩, h6⟩; rw [HH.out])
          | (go_at_call 26; refine (L_flush h6 HC.out 0).mono ?_; rintro e w7 ⟨rfl, h7⟩; rw [HF.out]))
        go_ret
        exact ⟨rfl, h7.below⟩
      · have hjk' : ¬ (k : Int) < (j : Int) := by omega
        have hjk2 : (j : Int) ≤ (k : Int) := by omega
        rw [show min j k = j by omega] at hhe
        have HH := Lib.hid hhe; have HC := Lib.hid hcalm; clear hhe hcalm
        go_wp2_with (first
          | (go_at_call 22; refine (answers08 _).mono ?_; rintro e w5 ⟨rfl, hb5⟩; have h5 := hP.ext hb5)
          | (go_at_call 25; refine (L_held h5 HC.out 0).mono ?_; rintro e w6 ⟨v6, rfl, ⟨a6, c6, rfl, _⟩, h6⟩; rw [HH.out]))
        go_ret
        exact ⟨rfl, h6.below⟩
end Go.Proofs.Fl

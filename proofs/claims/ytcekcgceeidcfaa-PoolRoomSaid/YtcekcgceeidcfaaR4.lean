import Derived.Test.YtcekcgceeidcfaaR3
namespace Go.Proofs.Fl
open Go.RowKit

set_option maxHeartbeats 2000000 in
set_option maxRecDepth 100000 in
theorem room_law (slots more : Nat) (hs : slots < 256) (hm : more < 256) (w : World) : Calls Try.prog 3 #[.int .u8 slots, .int .u8 more] w fun e w' => e = .returned (.bool true) ∧ Below w.heap.size w w' := by
  obtain ⟨n, hn⟩ : ∃ n, n = slots % 20 + 1 := ⟨_, rfl⟩
  have hn1 : 0 < n := by omega
  have hn2 : n ≤ 20 := by omega
  have e1 : (slots : Int) % 20 + 1 = (n : Int) := by omega
  obtain ⟨q, hq⟩ : ∃ q, q = more % n := ⟨_, rfl⟩
  obtain ⟨N, hN⟩ : ∃ N, N = n + more := ⟨_, rfl⟩
  have e2 : (more : Int) % (n : Int) = (q : Int) := by omega
  have e3 : (n : Int) + (more : Int) = (N : Int) := by omega
  have HQ := Lib.hid hq; have HN := Lib.hid hN; clear hq hN
  have hnz : ¬ (n : Int) = 0 := by omega
  have kc := fun (w : World) (C : Array Value) (n c : Nat) => Lib.run_convert_bytes_const (P := Try.prog) w 28 5 C n c Try.underlying28 Try.underlying5
  clear hn
  go_enter Try.func3, Try.ntmps3
  go_wp2_with (fail)
  refine (L_new w w (Below.refl _ _)).mono ?_
  rintro e w1 ⟨pb, rfl, h1⟩
  go_wp2_with (fail)
  refine (L_add h1 n (by decide)).mono ?_
  rintro e w2 ⟨rfl, h2⟩
  clear h1
  have hI : RoomI n 0 (PM.add ⟨[], -1, false⟩ n) (DM.new (clampN n)) := by
    have ec : clampN n = n := by unfold clampN; rw [if_neg (by omega), if_neg (by omega)]; rfl
    refine ⟨One.new n, ?_, by simp [DM.new]⟩
    rw [ec]; exact Filled.new n _
  generalize PM.add ⟨[], -1, false⟩ (n : Int) = m0 at h2 hI
  generalize DM.new (clampN (n : Int)) = d0 at hI
  go_wp2_with (fail)
  go_loopw [7] (fun i wr => ∃ (j : Nat) (m : PM) (d : DM), j ≤ n ∧ i = .int .i64 j ∧ RoomI n j m d ∧ PoolL w wr pb m)
    (fun i _ => n - (intOf i).toNat)
  case atStart => exact ⟨0, m0, d0, by omega, rfl, hI, h2⟩
  case round =>
    clear hI h2
    obtain ⟨j, m, d, hj, rfl, hI, hP⟩ := hrel
    by_cases hlt : j < n
    · obtain ⟨m1, d1, s1, o1, l1, m2, d2, s2, hI2⟩ := hI.step hlt hn2
      have hf := hI.few
      have hs1 := L_store (hP.ext ((Below.refl _ _).alloc (Nat.le_refl _) _)) (hI.one.calm (by omega)) 0 j 1 (Bs.lit wr #[.int .u8 120] 5 (1, 2) [120] rfl (by decide))
      have S1 := Lib.hid s1; have S2 := Lib.hid s2; have L1 := Lib.hid l1
      have hc1 := o1.calm (by omega)
      clear s1 s2 l1
      rw [S1.out] at hs1
      go_wp2_with (go_at_call 20; refine hs1.mono ?_; rintro e w3 ⟨rfl, h3⟩; have hs2 := L_store (h3.ext ((Below.refl _ _).alloc (Nat.le_refl _) _)) hc1 0 j 1 (Bs.lit w3 #[.int .u8 121] 5 (1, 2) [121] rfl (by decide)); rw [S2.out] at hs2; clear hs1)
      refine hs2.mono ?_
      rintro e w4 ⟨rfl, h4⟩
      clear hs2 h3 hP hI o1
      go_wp2
      go_roundw
      case rel => exact ⟨j + 1, m2, d2, by omega, by go_num, hI2, h4⟩
      case measure => simp [intOf]; omega
    · obtain rfl : j = n := by omega
      obtain ⟨f1, f2, m1, f3, f4, m2, f5, f6, f7⟩ := hI.fin hn2 hn1 more hm
      rw [← HN.out] at f1 f5
      rw [← HQ.out] at f3
      have F1 := Lib.hid f1; have F3 := Lib.hid f3; have F5 := Lib.hid f5; have F7 := Lib.hid f7
      clear f1 f3 f5 f7 hI
      go_wp2_with (fail)
      refine (L_store hP f2 0 N 1 (Bs.nil wr (fun _ => False))).mono ?_
      rintro e w3 ⟨rfl, h3⟩
      rw [F1.out] at h3 ⊢
      clear hP
      go_wp2_with (fail)
      refine (L_erase h3 f2 0 q 1).mono ?_
      rintro e w4 ⟨rfl, h4⟩
      rw [F3.out] at h4 ⊢
      clear h3
      go_wp2_with (fail)
      refine (L_store h4 f4 0 N 1 (Bs.nil w4 (fun _ => False))).mono ?_
      rintro e w5 ⟨rfl, h5⟩
      rw [F5.out] at h5 ⊢
      clear h4
      go_wp2_with (first
        | (go_at_call 22; refine (answers08 _).mono ?_; rintro e w6 ⟨rfl, hb6⟩; have h6 := h5.ext hb6)
        | (go_at_call 23; refine (L_free h6 f6 0).mono ?_; rintro e w7 ⟨rfl, h7⟩; rw [F7.out]))
      go_ret
      exact ⟨rfl, h7.below⟩
end Go.Proofs.Fl

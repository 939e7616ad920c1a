import Derived.Test.YtficmalfoeaibaaXF0toF1
import Derived.Test.YtficmalfoeaibaaXG5
namespace Go.Proofs.Fl
open Go.RowKit

theorem rowJ_zero (k n j : Nat) (h : n < k) : rowJ k n j = List.replicate k 0 := by
  induction j with
  | zero => rfl
  | succ j ih => show (if n < k then _ else _) = _; rw [if_pos h, ih]
theorem rowC_unit (k n : Nat) (h : n < k) : rowC k n = (List.replicate k 0).set n 1 := by
  unfold rowC; rw [if_pos h, rowJ_zero k n k h]

set_option maxHeartbeats 2000000 in
set_option maxRecDepth 100000 in
theorem unit_any (k : Nat) (hk : k ≤ 4) (w : World) :
    Calls Try.prog 123 #[.int .i64 k] w fun e w' => ∃ v, e = .returned v ∧ TabO w' w.heap.size (Fresh w) v (codeK k k) ∧ Below w.heap.size w w' := by
  obtain ⟨i0, hi, hz0, hz1, hz2⟩ := info_parts E28.info
  have HI := Lib.hid hi; have HZ0 := Lib.hid hz0; have HZ1 := Lib.hid hz1; have HZ2 := Lib.hid hz2
  clear hi hz0 hz1 hz2
  go_enter Try.func123, Try.ntmps123
  go_wp2
  go_loopw [3, 4] (fun v i wr => ∃ n : Nat, n ≤ k ∧ i = .int .i64 n ∧ TabO wr w.heap.size (Fresh w) v (codeK k n) ∧ Below w.heap.size w wr)
    (fun _ i _ => k - (intOf i).toNat)
  case atStart => exact ⟨0, by omega, rfl, TabO.nil _ _ _, Below.refl _ _⟩
  case round =>
    obtain ⟨n, hn, rfl, ht, hbr⟩ := hrel
    obtain ⟨tao, tc, rfl⟩ := ht.shape
    have HT := Lib.hid ht
    clear ht
    by_cases hlt : n < k
    · go_wp2_with (at_make; refine wpList_make_full _ rfl _ _ _ rfl wr.heap.size _ i0 _ 1 Try.underlying28 HI.out HZ0.out HZ1.out .i64 .i64 _ _ k rfl rfl rfl rfl (by rw [HZ2.out]; omega) (by unfold maxLen; omega) (Nat.le_refl _) ?_)
      intro w3 ho hg3
      rw [toList_madeCells_one, u8s_zeros] at ho
      have c3 := ho.frozenAt n
      have c4 := ho.cellAt n (by omega)
      rw [u8s_at _ _ (by rw [List.length_replicate]; omega)] at c4
      have st := ho.stored n (.int .u8 1)
      have er' : (u8s (List.replicate k 0)).set n (.int .u8 1) = u8s (rowC k n) := by rw [rowC_unit k n hlt]; exact u8s_set _ _ 1
      rw [er'] at st
      have hbq : Below wr.heap.size wr w3 := (Below.refl _ _).grown hg3 (Nat.le_refl _) (fun k h => by cases h)
      have hb4 := hbq.grown st.2 hbq.size (fun g hg => by cases hg; exact Nat.le_refl _)
      have ho4 := st.1
      obtain ⟨vs, q1, q2⟩ := HT.out.below hb4
      have hbs : Bs (w3.setCell ⟨wr.heap.size, n, none⟩ (.int .u8 1)) (fun b => Fresh w b ∧ (Value.slice tao (codeK k n).length tc).ownBlock ≠ some b) (.slice (some ⟨wr.heap.size, 0, none⟩) k k) (rowC k n) := by
        obtain ⟨vs0, p1, _⟩ := HT.out
        exact Bs.of_own ho4 _ (fun b h1 _ => ⟨Nat.le_trans hbr.size h1, fun e => by have := (p1.lt b e).2; omega⟩)
      have hbw4 : Below w.heap.size w (w3.setCell ⟨wr.heap.size, n, none⟩ (.int .u8 1)) := hbr.trans (hb4.mono hbr.size)
      have Q1 := Lib.hid q1; have Q2 := Lib.hid q2; have HBS := Lib.hid hbs
      generalize hyy : (List.replicate k (0 : UInt8)).getD n 0 = yy at *
      clear hbs q1 q2 ho ho4 st er' hyy hb4 hbq hg3
      go_wp2_with (at_builtin; refine wpList_app_new rfl _ _ _ rfl E59 w.heap.size _ 1 Q1.out rfl (by show Value.slice (some ⟨w3.heap.size, 0, none⟩) 1 1 = _; simp) rfl (by intro u hu; simp at hu; subst hu; rfl) (by rw [codeK_length]; omega) (by decide) hbw4.size ?_)
      intro v' w5 hown5 hg5 _
      have ht5 := TabO.snoc Q1.out Q2.out HBS.out hown5 hg5
      rw [← codeK_succ] at ht5
      have hb5 := Grew.new hbw4 hbw4.size hg5 (fun g hg => (Q1.out.lt g hg).1)
      obtain ⟨tao5, tc5, rfl⟩ := ht5.shape
      have HT5 := Lib.hid ht5; have HB5 := Lib.hid hb5
      clear ht5 hb5 hg5 hown5
      go_wp2
      go_roundw
      case rel => exact ⟨n + 1, by omega, by go_num, HT5.out, HB5.out⟩
      case measure => simp [intOf]; omega
    · obtain rfl : k = n := by omega
      go_wp2
      go_ret
      exact ⟨_, rfl, HT.out, hbr⟩
end Go.Proofs.Fl

namespace Go.Proofs.Fl
open Go.RowKit

theorem rinv_xor (n j : Nat) (hn : n < 8) (hj : j < 8) : rinv (UInt8.ofNat (n ^^^ j)) = ginv (UInt8.ofNat (n ^^^ j)) := rinv_small ⟨n ^^^ j, Nat.xor_lt_two_pow (n := 3) hn hj⟩

set_option maxHeartbeats 2000000 in
set_option maxRecDepth 100000 in
theorem rcode_any (k m : Nat) (hk1 : 1 ≤ k) (hk : k ≤ 4) (hm : m ≤ 3) (w : World) :
    Calls Try.prog 96 #[.int .i64 k, .int .i64 m] w fun e w' => ∃ v, e = .returned v ∧ TabO w' w.heap.size (Fresh w) v (codeM k m) ∧ Below w.heap.size w w' := by
  obtain ⟨i0, hi, hz0, hz1, hz2⟩ := info_parts E28.info
  have HI := Lib.hid hi; have HZ0 := Lib.hid hz0; have HZ1 := Lib.hid hz1; have HZ2 := Lib.hid hz2
  clear hi hz0 hz1 hz2
  have a1 : ¬ (k : Int) < 1 := by omega
  have a2 : ¬ (4 : Int) < (k : Int) := by omega
  have a3 : ¬ (m : Int) < 0 := by omega
  have a4 : ¬ (3 : Int) < (m : Int) := by omega
  go_enter Try.func96, Try.ntmps96
  go_wp2_with (fail)
  refine (unit_any k hk w).mono ?_
  rintro e w1 ⟨v1, rfl, ht1, hb1⟩
  have HT1 := Lib.hid ht1
  obtain ⟨ao1, kc1, rfl⟩ := ht1.shape
  clear ht1
  go_wp2
  clear a1 a2 a3 a4
  go_loopw [5, 6] (fun v i wr => ∃ n : Nat, n ≤ m ∧ i = .int .i64 n ∧ TabO wr w.heap.size (Fresh w) v (codeK k (k + n)) ∧ Below w.heap.size w wr)
    (fun _ i _ => m - (intOf i).toNat)
  case atStart => exact ⟨0, by omega, rfl, HT1.out, hb1⟩
  case round =>
    obtain ⟨n, hn, rfl, ht, hbr⟩ := hrel
    clear hb1
    obtain ⟨wa, hwa⟩ : ∃ wa, wa = wr := ⟨_, rfl⟩
    subst hwa
    obtain ⟨tao, tc, rfl⟩ := ht.shape
    have HT := Lib.hid ht
    clear ht
    by_cases hlt : n < m
    · go_wp2_with (at_make; refine wpList_make_full _ rfl _ _ _ rfl wa.heap.size _ i0 _ 1 Try.underlying28 HI.out HZ0.out HZ1.out .i64 .i64 _ _ k rfl rfl rfl rfl (by rw [HZ2.out]; omega) (by unfold maxLen; omega) (Nat.le_refl _) ?_)
      intro w3 hown hg3
      have hb3 : Below wa.heap.size wa w3 := (Below.refl _ _).grown hg3 (Nat.le_refl _) (fun k h => by cases h)
      rw [toList_madeCells_one, u8s_zeros] at hown
      go_wp2
      go_loopw [8] (fun i wr => ∃ j : Nat, j ≤ k ∧ i = .int .i64 j ∧ wr.ownsRow wa.heap.size tU8 1 (.slice (some ⟨wa.heap.size, 0, none⟩) k k) k (u8s (rowJ k (k + n) j)) ∧ Below wa.heap.size wa wr)
        (fun i _ => k - (intOf i).toNat)
      case atStart => exact ⟨0, by omega, rfl, hown, hb3⟩
      case round =>
        obtain ⟨j, hj, rfl, ho, hbq⟩ := hrel
        clear hb3 hown hg3
        have hbw : Below w.heap.size w wr := hbr.trans (hbq.mono hbr.size)
        by_cases hltj : j < k
        · have hnk : ¬ k + n < k := by omega
          have es : rowJ k (k + n) (j + 1) = (rowJ k (k + n) j).set j (ginv (UInt8.ofNat ((k + n) ^^^ j))) := by show (if k + n < k then _ else _) = _; rw [if_neg hnk]
          obtain ⟨x1, x2, x3⟩ := xor_small (k + n) j (by omega) (by omega)
          have x1' : bits BinOp.xor IntKind.i64 ((k : Int) + (n : Int)) (j : Int) = (((k + n) ^^^ j : Nat) : Int) := x1
          have hri := rinv_xor (k + n) j (by omega) (by omega)
          have c3 := ho.frozenAt j
          have c4 := ho.cellAt j (by omega)
          rw [u8s_at _ _ (by rw [rowJ_length]; omega)] at c4
          have st := ho.stored j (.int .u8 ((ginv (UInt8.ofNat ((k + n) ^^^ j))).toNat : Int))
          rw [u8s_set, ← es] at st
          have ST := Lib.hid st
          clear st ho x1 es
          obtain ⟨z, hz⟩ : ∃ z, UInt8.ofNat ((k + n) ^^^ j) = z := ⟨_, rfl⟩
          rw [hz] at x2 x3 hri
          have ST2 := ST.out
          rw [hz] at ST2
          have STT := Lib.hid ST2
          have X2 := Lib.hid x2; have X4 := Lib.hid x3; have HRI := Lib.hid hri
          obtain ⟨xn, hxn⟩ : ∃ xn, (k + n) ^^^ j = xn := ⟨_, rfl⟩
          rw [hxn] at x1' 
          have hx3 := X4.out
          rw [hxn] at hx3
          have HX3 := Lib.hid hx3
          clear ST2 x2 x3 hz ST hxn hri hx3
          go_wp2_with (fail)
          rw [HX3.out]
          refine (rinv_any _ _).mono ?_
          rintro e w4 ⟨rfl, rfl⟩
          rw [HRI.out]
          go_wp2
          go_roundw
          case rel => exact ⟨j + 1, by omega, by go_num, STT.out.1, hbq.grown STT.out.2 hbq.size (fun g hg => by cases hg; exact Nat.le_refl _)⟩
          case measure => simp [intOf]; omega
        · obtain rfl : k = j := by omega
          have hnk : ¬ k + n < k := by omega
          have er : rowJ k (k + n) k = rowC k (k + n) := by unfold rowC; rw [if_neg hnk]
          rw [er] at ho
          obtain ⟨vs, q1, q2⟩ := HT.out.below hbq
          have hbs : Bs wr (fun b => Fresh w b ∧ (Value.slice tao (codeK k (k + n)).length tc).ownBlock ≠ some b) (.slice (some ⟨wa.heap.size, 0, none⟩) k k) (rowC k (k + n)) := by
            obtain ⟨vs0, p1, _⟩ := HT.out
            exact Bs.of_own ho _ (fun b h1 _ => ⟨Nat.le_trans hbr.size h1, fun e => by have := (p1.lt b e).2; omega⟩)
          have Q1 := Lib.hid q1; have Q2 := Lib.hid q2; have HBS := Lib.hid hbs
          clear hbs q1 q2 ho er
          go_wp2_with (at_builtin; refine wpList_app_new rfl _ _ _ rfl E59 w.heap.size _ 1 Q1.out rfl rfl rfl (by intro u hu; simp at hu; subst hu; rfl) (by rw [codeK_length]; omega) (by decide) hbw.size ?_)
          intro v' w5 hown5 hg5 _
          have ht5 := TabO.snoc Q1.out Q2.out HBS.out hown5 hg5
          rw [← codeK_succ, Nat.add_assoc] at ht5
          have hb5 := Grew.new hbw hbw.size hg5 (fun g hg => (Q1.out.lt g hg).1)
          obtain ⟨tao5, tc5, rfl⟩ := ht5.shape
          have HT5 := Lib.hid ht5; have HB5 := Lib.hid hb5
          clear ht5 hb5 hg5 hown5 hbw hbq
          go_wp2
          go_roundw
          case rel => exact ⟨n + 1, by omega, by go_num, HT5.out, HB5.out⟩
          case measure => simp [intOf]; omega
    · obtain rfl : m = n := by omega
      go_wp2
      go_ret
      exact ⟨_, rfl, HT.out, hbr⟩
end Go.Proofs.Fl

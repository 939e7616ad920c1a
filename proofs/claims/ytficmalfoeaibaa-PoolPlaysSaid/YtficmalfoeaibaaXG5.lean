import Derived.Test.YtficmalfoeaibaaXG2toG4
namespace Go.Proofs.Fl
open Go.RowKit

/-! ### what data is multiplied by -/
def rowJ (k n : Nat) : Nat → Bytes
  | 0 => List.replicate k 0
  | j + 1 => if n < k then rowJ k n j else (rowJ k n j).set j (ginv (UInt8.ofNat (n ^^^ j)))
def rowC (k n : Nat) : Bytes := if n < k then (rowJ k n k).set n 1 else rowJ k n k
def codeK (k n : Nat) : List Bytes := (List.range n).map (rowC k)
def codeM (k m : Nat) : List Bytes := codeK k (k + m)
theorem rowJ_length (k n j : Nat) : (rowJ k n j).length = k := by
  induction j with
  | zero => simp [rowJ]
  | succ j ih => unfold rowJ; split <;> simp [ih]
theorem rowC_length (k n : Nat) : (rowC k n).length = k := by unfold rowC; split <;> simp [rowJ_length]
theorem codeK_succ (k n : Nat) : codeK k (n + 1) = codeK k n ++ [rowC k n] := by simp [codeK, List.range_succ]
theorem codeK_length (k n : Nat) : (codeK k n).length = n := by simp [codeK]
theorem codeK_get (k n i : Nat) (h : i < n) : (codeK k n).getD i [] = rowC k i := by simp [codeK, List.getD_eq_getElem?_getD, h]
theorem xor_small (n j : Nat) (hn : n < 7) (hj : j < 4) : bits BinOp.xor IntKind.i64 (n : Int) (j : Int) = ((n ^^^ j : Nat) : Int) ∧ ((n % 256 ^^^ j % 256 : Nat) : Int) = ((UInt8.ofNat (n ^^^ j)).toNat : Int) ∧ ((n ^^^ j : Nat) : Int) % 256 = ((UInt8.ofNat (n ^^^ j)).toNat : Int) := by
  have h : ∀ a : Fin 7, ∀ b : Fin 4, bits BinOp.xor IntKind.i64 ((a.val : Nat) : Int) ((b.val : Nat) : Int) = ((a.val ^^^ b.val : Nat) : Int) ∧ ((a.val % 256 ^^^ b.val % 256 : Nat) : Int) = ((UInt8.ofNat (a.val ^^^ b.val)).toNat : Int) ∧ ((a.val ^^^ b.val : Nat) : Int) % 256 = ((UInt8.ofNat (a.val ^^^ b.val)).toNat : Int) := by decide +kernel
  exact h ⟨n, hn⟩ ⟨j, hj⟩

set_option maxHeartbeats 2000000 in
set_option maxRecDepth 100000 in
theorem code_any (k m : Nat) (hk1 : 1 ≤ k) (hk : k ≤ 4) (hm : m ≤ 3) (w : World) :
    Calls Try.prog 85 #[.int .i64 k, .int .i64 m] w fun e w' => ∃ v, e = .returned v ∧ v ≠ .slice none 0 0 ∧ TabO w' w.heap.size (Fresh w) v (codeM k m) ∧ Below w.heap.size w w' := by
  obtain ⟨i0, hi, hz0, hz1, hz2⟩ := info_parts E28.info
  have HI := Lib.hid hi; have HZ0 := Lib.hid hz0; have HZ1 := Lib.hid hz1; have HZ2 := Lib.hid hz2
  clear hi hz0 hz1 hz2
  have a1 : ¬ (k : Int) < 1 := by omega
  have a2 : ¬ (4 : Int) < (k : Int) := by omega
  have a3 : ¬ (m : Int) < 0 := by omega
  have a4 : ¬ (3 : Int) < (m : Int) := by omega
  go_enter Try.func85, Try.ntmps85
  go_wp2
  clear a1 a2 a3 a4
  go_loopw [5, 26] (fun v i wr => ∃ n : Nat, n ≤ k + m ∧ i = .int .i64 n ∧ TabO wr w.heap.size (Fresh w) v (codeK k n) ∧ Below w.heap.size w wr ∧ (0 < n → v ≠ .slice none 0 0))
    (fun _ i _ => (k + m) - (intOf i).toNat)
  case atStart => exact ⟨0, by omega, rfl, TabO.nil _ _ _, Below.refl _ _, by omega⟩
  case round =>
    obtain ⟨n, hn, rfl, ht, hbr, hnn⟩ := hrel
    obtain ⟨wa, hwa⟩ : ∃ wa, wa = wr := ⟨_, rfl⟩
    subst hwa
    obtain ⟨tao, tc, rfl⟩ := ht.shape
    have HT := Lib.hid ht; have HNN := Lib.hid hnn
    clear ht hnn
    by_cases hlt : n < k + m
    · have hkm : (n : Int) < (k : Int) + (m : Int) := by omega
      go_wp2_with (at_make; refine wpList_make_full _ rfl _ _ _ rfl wa.heap.size _ i0 _ 1 Try.underlying28 HI.out HZ0.out HZ1.out .i64 .i64 _ _ k rfl rfl rfl rfl (by rw [HZ2.out]; omega) (by unfold maxLen; omega) (Nat.le_refl _) ?_)
      intro w3 hown hg3
      have hb3 : Below wa.heap.size wa w3 := (Below.refl _ _).grown hg3 (Nat.le_refl _) (fun k h => by cases h)
      rw [toList_madeCells_one, u8s_zeros] at hown
      go_wp2
      go_loopw [33] (fun i wr => ∃ j : Nat, j ≤ k ∧ i = .int .i64 j ∧ wr.ownsRow wa.heap.size tU8 1 (.slice (some ⟨wa.heap.size, 0, none⟩) k k) k (u8s (rowJ k n j)) ∧ Below wa.heap.size wa wr)
        (fun i _ => k - (intOf i).toNat)
      case atStart => exact ⟨0, by omega, rfl, hown, hb3⟩
      case round =>
        obtain ⟨j, hj, rfl, ho, hbq⟩ := hrel
        clear hb3 hown hg3
        have hbw : Below w.heap.size w wr := hbr.trans (hbq.mono hbr.size)
        by_cases hltj : j < k
        · by_cases hnk : n < k
          · have hnk' : ¬ (k : Int) ≤ (n : Int) := by omega
            have es : rowJ k n (j + 1) = rowJ k n j := by show (if n < k then _ else _) = _; rw [if_pos hnk]
            rw [← es] at ho
            have HO := Lib.hid ho
            clear es ho
            go_wp2
            go_roundw
            case rel => exact ⟨j + 1, by omega, by go_num, HO.out, hbq⟩
            case measure => simp [intOf]; omega
          · have hnk' : (k : Int) ≤ (n : Int) := by omega
            have es : rowJ k n (j + 1) = (rowJ k n j).set j (ginv (UInt8.ofNat (n ^^^ j))) := by show (if n < k then _ else _) = _; rw [if_neg hnk]
            obtain ⟨x1, x2, x3⟩ := xor_small n j (by omega) (by omega)
            have c3 := ho.frozenAt j
            have c4 := ho.cellAt j (by omega)
            rw [u8s_at _ _ (by rw [rowJ_length]; omega)] at c4
            have st := ho.stored j (.int .u8 ((ginv (UInt8.ofNat (n ^^^ j))).toNat : Int))
            rw [u8s_set, ← es] at st
            have ST := Lib.hid st
            clear st ho
            have EZ := Lib.hid es
            clear es
            generalize UInt8.ofNat (n ^^^ j) = z at *
            have X2 := Lib.hid x2; have X4 := Lib.hid x3
            clear x2 x3
            go_wp2_with (fail)
            first | rw [X4.out] | rw [X2.out]
            refine (inv_any _ _).mono ?_
            rintro e w4 ⟨rfl, rfl⟩
            go_wp2
            go_roundw
            case rel => exact ⟨j + 1, by omega, by go_num, ST.out.1, hbq.grown ST.out.2 hbq.size (fun g hg => by cases hg; exact Nat.le_refl _)⟩
            case measure => simp [intOf]; omega
        · obtain rfl : j = k := by omega
          by_cases hnk : n < j
          · have c3 := ho.frozenAt n
            have c4 := ho.cellAt n (by omega)
            rw [u8s_at _ _ (by rw [rowJ_length]; omega)] at c4
            have st := ho.stored n (.int .u8 1)
            have er : (rowJ j n j).set n 1 = rowC j n := by unfold rowC; rw [if_pos hnk]
            have er' : (u8s (rowJ j n j)).set n (.int .u8 1) = u8s (rowC j n) := by rw [← er]; exact u8s_set _ _ 1
            rw [er'] at st
            have hb4 := hbq.grown st.2 hbq.size (fun g hg => by cases hg; exact Nat.le_refl _)
            have ho4 := st.1
            obtain ⟨vs, q1, q2⟩ := HT.out.below hb4
            have hbs : Bs (wr.setCell ⟨wa.heap.size, n, none⟩ (.int .u8 1)) (fun b => Fresh w b ∧ (Value.slice tao (codeK j n).length tc).ownBlock ≠ some b) (.slice (some ⟨wa.heap.size, 0, none⟩) j j) (rowC j n) := by
              obtain ⟨vs0, p1, _⟩ := HT.out
              exact Bs.of_own ho4 _ (fun b h1 _ => ⟨Nat.le_trans hbr.size h1, fun e => by have := (p1.lt b e).2; omega⟩)
            have hbw4 : Below w.heap.size w (wr.setCell ⟨wa.heap.size, n, none⟩ (.int .u8 1)) := hbr.trans (hb4.mono hbr.size)
            have Q1 := Lib.hid q1; have Q2 := Lib.hid q2; have HBS := Lib.hid hbs
            have hnk' : (n : Int) < (j : Int) := by omega
            clear hbs q1 q2 ho ho4 st er er'
            go_wp2_with (at_builtin; refine wpList_app_new rfl _ _ _ rfl E59 w.heap.size _ 1 Q1.out rfl (by show Value.slice (some ⟨wr.heap.size, 0, none⟩) 1 1 = _; simp) rfl (by intro u hu; simp at hu; subst hu; rfl) (by rw [codeK_length]; omega) (by decide) hbw4.size ?_)
            intro v' w5 hown5 hg5 hnil
            have ht5 := TabO.snoc Q1.out Q2.out HBS.out hown5 hg5
            rw [← codeK_succ] at ht5
            have hb5 := Grew.new hbw4 hbw4.size hg5 (fun g hg => (Q1.out.lt g hg).1)
            have hnn5 : v' ≠ .slice none 0 0 := by first | exact hnil | exact fun e => absurd (hnil.1 e).2 (by omega)
            obtain ⟨tao5, tc5, rfl⟩ := ht5.shape
            have HT5 := Lib.hid ht5; have HB5 := Lib.hid hb5; have HN5 := Lib.hid hnn5
            clear ht5 hb5 hg5 hown5 hbw hbq hnil hnn5
            go_wp2
            go_roundw
            case rel => exact ⟨n + 1, by omega, by go_num, HT5.out, HB5.out, fun _ => HN5.out⟩
            case measure => simp [intOf]; omega
          · have er : rowJ j n j = rowC j n := by unfold rowC; rw [if_neg hnk]
            rw [er] at ho
            obtain ⟨vs, q1, q2⟩ := HT.out.below hbq
            have hbs : Bs wr (fun b => Fresh w b ∧ (Value.slice tao (codeK j n).length tc).ownBlock ≠ some b) (.slice (some ⟨wa.heap.size, 0, none⟩) j j) (rowC j n) := by
              obtain ⟨vs0, p1, _⟩ := HT.out
              exact Bs.of_own ho _ (fun b h1 _ => ⟨Nat.le_trans hbr.size h1, fun e => by have := (p1.lt b e).2; omega⟩)
            have Q1 := Lib.hid q1; have Q2 := Lib.hid q2; have HBS := Lib.hid hbs
            have hnk' : ¬ (n : Int) < (j : Int) := by omega
            clear hbs q1 q2 ho er
            go_wp2_with (at_builtin; refine wpList_app_new rfl _ _ _ rfl E59 w.heap.size _ 1 Q1.out rfl rfl rfl (by intro u hu; simp at hu; subst hu; rfl) (by rw [codeK_length]; omega) (by decide) hbw.size ?_)
            intro v' w5 hown5 hg5 hnil
            have ht5 := TabO.snoc Q1.out Q2.out HBS.out hown5 hg5
            rw [← codeK_succ] at ht5
            have hb5 := Grew.new hbw hbw.size hg5 (fun g hg => (Q1.out.lt g hg).1)
            have hnn5 : v' ≠ .slice none 0 0 := by first | exact hnil | exact fun e => absurd (hnil.1 e).2 (by omega)
            obtain ⟨tao5, tc5, rfl⟩ := ht5.shape
            have HT5 := Lib.hid ht5; have HB5 := Lib.hid hb5; have HN5 := Lib.hid hnn5
            clear ht5 hb5 hg5 hown5 hbw hbq hnil hnn5
            go_wp2
            go_roundw
            case rel => exact ⟨n + 1, by omega, by go_num, HT5.out, HB5.out, fun _ => HN5.out⟩
            case measure => simp [intOf]; omega
    · obtain rfl : n = k + m := by omega
      have hkm : ¬ ((k + m : Nat) : Int) < (k : Int) + (m : Int) := by omega
      go_wp2
      go_ret
      exact ⟨_, rfl, HNN.out (by omega), HT.out, hbr⟩
end Go.Proofs.Fl

import Derived.Test.YtcekcgceeidcfaaD1
namespace Go.Proofs.Fl
open Go.RowKit

/-- Which loose writes last. -/
def crashSel (x : Nat) (j : Nat) : Bool := decide (j < 64) && x.testBit j
theorem bit_val (x j : Nat) (hx : x ≤ 18446744073709551615) : bits BinOp.and IntKind.u64 ((x : Int) / 2 ^ j) 1 = if x.testBit j then 1 else 0 := by
  have h1 : (x : Int) / 2 ^ j = ((x / 2 ^ j : Nat) : Int) := by simp
  have h2 : x / 2 ^ j ≤ x := Nat.div_le_self _ _
  rw [h1]
  have h3 := u64_and_nat (x / 2 ^ j) 1 (by omega) (by decide)
  rw [show ((1 : Nat) : Int) = 1 from rfl] at h3
  rw [h3, Nat.testBit_eq_decide_div_mod_eq, Nat.and_one_is_mod]
  by_cases h : x / 2 ^ j % 2 = 1
  · simp [h]
  · have : x / 2 ^ j % 2 = 0 := by omega
    simp [this]
theorem bit_one (x j : Nat) (hx : x ≤ 18446744073709551615) (h : x.testBit j = true) : bits BinOp.and IntKind.u64 ((x : Int) / 2 ^ j) 1 = 1 := by rw [bit_val x j hx, h]; rfl
theorem bit_zero (x j : Nat) (hx : x ≤ 18446744073709551615) (h : x.testBit j = false) : bits BinOp.and IntKind.u64 ((x : Int) / 2 ^ j) 1 = 0 := by rw [bit_val x j hx, h]; rfl

set_option maxHeartbeats 400000 in
set_option maxRecDepth 100000 in
theorem crash_walk (db lb ob n k cap c : Nat) (ao0 : Option Addr) (x : Nat) (bl : Bool) (hx : x ≤ 18446744073709551615) (cs : List Value) (ws : List (Nat × Value)) (w : World)
    (hD : w.heap[db]? = some (.cells #[.slice (some ⟨lb, 0, none⟩) n c, .slice ao0 k cap, .bool bl] tDrive (0, 0)))
    (hl : w.heap[lb]? = some (.cells cs.toArray tBytes (0, 0))) (hcs : cs.length = n) (hk : ws.length = k)
    (hw : ∀ j, j < k → (ws.getD j (0, undef)).1 < n ∧ (∃ ao m k, (ws.getD j (0, undef)).2 = .slice ao m k) ∧ w.cell? ⟨ob, j * 2, none⟩ = some (.int .i64 ((ws.getD j (0, undef)).1 : Int)) ∧ w.cell? ⟨ob, j * 2 + 1, none⟩ = some (ws.getD j (0, undef)).2)
    (hne1 : lb ≠ db) (hne2 : lb ≠ ob) (hkm : k ≤ 1000000000) (hao : 0 < k → ao0 = some ⟨ob, 0, none⟩) :
    Calls Try.prog 73 #[.pointer (some ⟨db, 0, none⟩), .int .u64 x] w fun e w' => e = .returned (.tuple #[]) ∧ Mod (fun b => b = db ∨ b = lb) w w' ∧
      w'.heap[lb]? = some (.cells (runW (crashSel x) ws (0, undef) k cs).toArray tBytes (0, 0)) ∧
      w'.heap[db]? = some (.cells #[.slice (some ⟨lb, 0, none⟩) n c, .slice none 0 0, .bool bl] tDrive (0, 0)) := by
  have h0 : w.cell? ⟨db, 0, none⟩ = some (.slice (some ⟨lb, 0, none⟩) n c) := blk_cell hD rfl
  have h1 : w.cell? ⟨db, 1, none⟩ = some (.slice ao0 k cap) := blk_cell hD rfl
  have h2 : w.cell? ⟨db, 2, none⟩ = some (.bool bl) := blk_cell hD rfl
  have hf := blk_free hD 1
  have HD := Lib.hid hD; clear hD
  have HX := Lib.hid hx; clear hx
  go_enter Try.func73, Try.ntmps73
  go_wp2
  subst hk
  go_loopw [13] (fun i wr => ∃ j : Nat, j ≤ ws.length ∧ i = .int .i64 j ∧ Mod (fun b => b = lb) w wr ∧ wr.heap[lb]? = some (.cells (runW (crashSel x) ws (0, undef) j cs).toArray tBytes (0, 0)))
    (fun i _ => ws.length - (intOf i).toNat)
  case atStart => exact ⟨0, by omega, rfl, Mod.refl _ _, hl⟩
  case round =>
    obtain ⟨j, hj, rfl, hm, hlr⟩ := hrel
    have k0 := (hm.cell (p := ⟨db, 0, none⟩) (World.block_lt_of_cell? w _ h0) hne1.symm).trans h0
    have k1 := (hm.cell (p := ⟨db, 1, none⟩) (World.block_lt_of_cell? w _ h1) hne1.symm).trans h1
    have k1f := (hm.frozen (p := ⟨db, 1, none⟩) (World.block_lt_of_cell? w _ h1) hne1.symm).trans hf
    clear h0 h1 h2 hf hl
    by_cases hlt : j < ws.length
    · obtain rfl := hao (by omega)
      obtain ⟨w1, ⟨ao, m, c', w2⟩, w3, w4⟩ := hw j hlt
      have hob := World.block_lt_of_cell? w _ w3
      have c1 := (hm.cell (p := ⟨ob, j * 2, none⟩) hob hne2.symm).trans w3
      have c2 := (hm.cell (p := ⟨ob, j * 2 + 1, none⟩) hob hne2.symm).trans w4
      clear w3 w4 hob
      have HW := Lib.hid hw; have HC := Lib.hid hcs; clear hw hcs
      have HLR := Lib.hid hlr; clear hlr
      have e2 : runW (crashSel x) ws (0, undef) (j + 1) cs = if crashSel x j then (runW (crashSel x) ws (0, undef) j cs).set (ws.getD j (0, undef)).1 (ws.getD j (0, undef)).2 else runW (crashSel x) ws (0, undef) j cs := by simp [runW]
      generalize ws.getD j (0, undef) = pr at *
      obtain ⟨sl, bv⟩ := pr
      simp only at w1 w2 c1 c2 e2
      subst w2
      by_cases hj64 : j < 64
      · cases hb : x.testBit j
        · have hbt := bit_zero x j HX.out hb
          have hj' : (j : Int) < 64 := by omega
          rw [show crashSel x j = false by simp [crashSel, hb]] at e2
          have E2 := Lib.hid e2; clear e2 hb hj64
          have hm3 : Mod (fun b => b = lb) w (wr.alloc (.cells #[.int .i64 (sl : Int), .slice ao m c'] tWrite)) := hm.alloc _
          have hl3 : (wr.alloc (.cells #[.int .i64 (sl : Int), .slice ao m c'] tWrite)).heap[lb]? = some (.cells (runW (crashSel x) ws (0, undef) (j + 1) cs).toArray tBytes (0, 0)) := by
            rw [E2.out]; exact blk_alloc HLR.out _
          have HM3 := Lib.hid hm3; have HL3 := Lib.hid hl3
          clear HLR E2 hm hm3 hl3
          go_wp2
          go_roundw
          case rel => exact ⟨j + 1, by omega, by go_num, HM3.out, HL3.out⟩
          case measure => simp [intOf]; omega
        · have hbt := bit_one x j HX.out hb
          have hj' : (j : Int) < 64 := by omega
          rw [show crashSel x j = true by simp [crashSel, hb, hj64]] at e2
          have E2 := Lib.hid e2; clear e2 hb hj64
          go_wp2_with (fail)
          have hm1 : Mod (fun b => b = lb) wr (wr.alloc (.cells #[.int .i64 (sl : Int), .slice ao m c'] tWrite)) := (Mod.refl _ _).alloc _
          refine (do_any db lb sl n c (.slice ao m c') _ _ (by rw [World.cell?_alloc_lt _ _ _ (World.block_lt_of_cell? wr _ k0)]; exact k0) (blk_alloc HLR.out _) w1 (by simp [HC.out]) ⟨_, _, _, rfl⟩).mono ?_
          rintro e w2 ⟨rfl, hm2, hl2⟩
          have hm3 := (hm.trans hm1).trans hm2
          have hl3 : w2.heap[lb]? = some (.cells (runW (crashSel x) ws (0, undef) (j + 1) cs).toArray tBytes (0, 0)) := by
            rw [hl2, E2.out]; simp
          clear hm2 hl2 hm1 HLR E2 k0 k1 k1f c1 c2 hm
          go_wp2
          go_roundw
          case rel => exact ⟨j + 1, by omega, by go_num, hm3, hl3⟩
          case measure => simp [intOf]; omega
      · have hj' : ¬ (j : Int) < 64 := by omega
        rw [show crashSel x j = false by simp [crashSel, hj64]] at e2
        have E2 := Lib.hid e2; clear e2 hj64
        have hm3 : Mod (fun b => b = lb) w (wr.alloc (.cells #[.int .i64 (sl : Int), .slice ao m c'] tWrite)) := hm.alloc _
        have hl3 : (wr.alloc (.cells #[.int .i64 (sl : Int), .slice ao m c'] tWrite)).heap[lb]? = some (.cells (runW (crashSel x) ws (0, undef) (j + 1) cs).toArray tBytes (0, 0)) := by
          rw [E2.out]; exact blk_alloc HLR.out _
        have HM3 := Lib.hid hm3; have HL3 := Lib.hid hl3
        clear HLR E2 hm hm3 hl3
        go_wp2
        go_roundw
        case rel => exact ⟨j + 1, by omega, by go_num, HM3.out, HL3.out⟩
        case measure => simp [intOf]; omega
    · obtain rfl : j = ws.length := by omega
      have hm' : Mod (fun b => b = db ∨ b = lb) w wr := hm.mono fun _ _ h => .inr h
      have hD' := blk_mod hm HD.out (Ne.symm hne1)
      have HLR := Lib.hid hlr; have HD' := Lib.hid hD'; clear hlr hD'
      go_wp2
      go_end0
      refine ⟨rfl, hm'.setCell (p := ⟨db, 1, none⟩) (fun _ => .inl rfl) _, ?_, blk_set HD'.out 1 _⟩
      rw [Below.heap_setCell _ _ _ _ (by exact hne1)]
      exact HLR.out
end Go.Proofs.Fl

import Derived.Test.YtficmalfoeaibaaXH0toH4
import Derived.RegionTactic
import Derived.ChangeAlike
namespace Go.Proofs.Fl
open Go.RowKit

/-! ### A block of cells -/
theorem blk_cell {w : World} {b : Nat} {cs : Array Value} {T : TypeId} (h : w.heap[b]? = some (.cells cs T (0, 0))) {i : Nat} {v : Value} (hi : cs[i]? = some v) : w.cell? ⟨b, i, none⟩ = some v := by
  simp [World.cell?, h, hi]
theorem blk_free {w : World} {b : Nat} {cs : Array Value} {T : TypeId} (h : w.heap[b]? = some (.cells cs T (0, 0))) (i : Nat) : w.frozen? ⟨b, i, none⟩ = false := by
  simp [World.frozen?, h]
theorem blk_lt {w : World} {b : Nat} {o : Obj} (h : w.heap[b]? = some o) : b < w.heap.size := (Array.getElem?_eq_some_iff.1 h).1
theorem blk_set {w : World} {b : Nat} {cs : Array Value} {T : TypeId} (h : w.heap[b]? = some (.cells cs T (0, 0))) (i : Nat) (u : Value) : (w.setCell ⟨b, i, none⟩ u).heap[b]? = some (.cells (cs.setIfInBounds i u) T (0, 0)) := by
  simp [World.setCell, Array.getElem?_modify, h]
theorem blk_alloc {w : World} {b : Nat} {o : Obj} (h : w.heap[b]? = some o) (x : Obj) : (w.alloc x).heap[b]? = some o := by
  rw [Below.heap_alloc w x b (blk_lt h)]; exact h
theorem blk_mod {S : Nat → Prop} {w w' : World} (hm : Mod S w w') {b : Nat} {o : Obj} (h : w.heap[b]? = some o) (hs : ¬ S b) : w'.heap[b]? = some o := (hm.block b (blk_lt h) hs).trans h

abbrev tDrive : TypeId := 109
abbrev tWrite : TypeId := 129

set_option maxHeartbeats 400000 in
set_option maxRecDepth 100000 in
/-- A write lasts. -/
theorem do_any (db lb i : Nat) (n c : Nat) (bv : Value) (cs : Array Value) (w : World) (h0 : w.cell? ⟨db, 0, none⟩ = some (.slice (some ⟨lb, 0, none⟩) n c)) (hl : w.heap[lb]? = some (.cells cs tBytes (0, 0))) (hi : i < n) (hcs : cs.size = n)
    (hv : ∃ ao m k, bv = .slice ao m k) :
    Calls Try.prog 103 #[.pointer (some ⟨db, 0, none⟩), .agg #[.int .i64 i, bv]] w fun e w' => e = .returned (.tuple #[]) ∧ Mod (· = lb) w w' ∧ w'.heap[lb]? = some (.cells (cs.setIfInBounds i bv) tBytes (0, 0)) := by
  obtain ⟨ao, m, k, rfl⟩ := hv
  have hlb := blk_lt hl
  have hdb := World.block_lt_of_cell? w _ h0
  obtain ⟨u, hu⟩ : ∃ u, w.cell? ⟨lb, i, none⟩ = some u := ⟨cs[i], blk_cell hl (by simp [hcs, hi])⟩
  have hf := blk_free hl i
  have HL := Lib.hid hl; clear hl
  have HC := Lib.hid hcs; clear hcs
  go_enter Try.func103, Try.ntmps103
  go_wp2
  go_region
  go_end0
  refine ⟨rfl, ?_, ?_⟩
  · exact (((Mod.refl (fun x => x = lb) w).setCell (p := ⟨lb, i, none⟩) (fun _ => rfl) _).alloc _).drew
  · exact blk_alloc (blk_set HL.out i (.slice ao m k)) (.cells #[.int .i64 i, .slice ao m k] tWrite)

set_option maxHeartbeats 400000 in
set_option maxRecDepth 100000 in
theorem lost_any (db : Nat) (x : Bool) (w : World) (h : w.cell? ⟨db, 2, none⟩ = some (.bool x)) : Calls Try.prog 98 #[.pointer (some ⟨db, 0, none⟩)] w fun e w' => e = .returned (.bool x) ∧ w = w' := by
  go_enter Try.func98, Try.ntmps98
  go_wp2
  go_ret
  exact ⟨rfl, rfl⟩
theorem lost_nil (w : World) : Calls Try.prog 98 #[.pointer none] w fun e w' => e = .returned (.bool false) ∧ w = w' := by
  go_enter Try.func98, Try.ntmps98
  go_wp2
  go_ret
  exact ⟨rfl, rfl⟩
theorem cap_nil (w : World) : Calls Try.prog 67 #[.pointer none] w fun e w' => e = .returned (.int .i64 0) ∧ w = w' := by
  go_enter Try.func67, Try.ntmps67
  go_wp2_with (go_at_call 98; refine (lost_nil _).mono ?_; rintro e w1 ⟨rfl, rfl⟩)
  go_ret
  exact ⟨rfl, rfl⟩
theorem cap_any (db n c : Nat) (ao : Option Addr) (x : Bool) (w : World) (h0 : w.cell? ⟨db, 0, none⟩ = some (.slice ao n c)) (h : w.cell? ⟨db, 2, none⟩ = some (.bool x)) :
    Calls Try.prog 67 #[.pointer (some ⟨db, 0, none⟩)] w fun e w' => e = .returned (.int .i64 (if x then 0 else n : Nat)) ∧ w = w' := by
  cases x
  all_goals
    go_enter Try.func67, Try.ntmps67
    go_wp2_with (go_at_call 98; refine (lost_any _ _ _ (by assumption)).mono ?_; rintro e w1 ⟨rfl, rfl⟩)
    go_ret
    exact ⟨rfl, rfl⟩
theorem check_ok (db n c i : Nat) (ao : Option Addr) (w : World) (h0 : w.cell? ⟨db, 0, none⟩ = some (.slice ao n c)) (h : w.cell? ⟨db, 2, none⟩ = some (.bool false)) (hi : i < n) :
    Calls Try.prog 104 #[.pointer (some ⟨db, 0, none⟩), .int .i64 i] w fun e w' => e = .returned (.int .i64 0) ∧ w = w' := by
  have h1 : ¬ ((i : Int) < 0) := by omega
  have h2 : ¬ ((n : Int) ≤ (i : Int)) := by omega
  go_enter Try.func104, Try.ntmps104
  go_wp2
  go_ret
  exact ⟨rfl, rfl⟩
theorem lasts_ok (db lb n c i : Nat) (bv : Value) (l : Bytes) (S : Nat → Prop) (w : World) (h0 : w.cell? ⟨db, 0, none⟩ = some (.slice (some ⟨lb, 0, none⟩) n c)) (h : w.cell? ⟨db, 2, none⟩ = some (.bool false)) (hi : i < n)
    (hc : w.cell? ⟨lb, i, none⟩ = some bv) (hB : Bs w S bv l) (hl : l.length ≤ 1000) :
    Calls Try.prog 71 #[.pointer (some ⟨db, 0, none⟩), .int .i64 i] w fun e w' => ∃ v', e = .returned (.tuple #[v', .int .i64 0]) ∧ Bs w' (Fresh w) v' l ∧ Below w.heap.size w w' := by
  obtain ⟨ao, m, k, rfl⟩ : ∃ ao m k, bv = .slice ao m k := by obtain ⟨ao, c, e, _⟩ := hB; exact ⟨ao, _, c, e⟩
  go_enter Try.func71, Try.ntmps71
  go_wp2_with (go_at_call 104; refine (check_ok _ _ _ _ _ _ h0 h hi).mono ?_; rintro e w1 ⟨rfl, rfl⟩)
  refine (clone_any hB (by omega)).mono ?_
  rintro e w1 ⟨v1, rfl, hC, hb⟩
  go_wp2
  go_ret2
  exact ⟨_, rfl, hC, hb⟩
end Go.Proofs.Fl

namespace Go.Proofs.Fl
open Go.RowKit

/-- The writes that 'sel' chooses among the first k, done. -/
def runW {α : Type} (sel : Nat → Bool) (ws : List (Nat × α)) (z : Nat × α) : Nat → List α → List α
  | 0, ls => ls
  | k + 1, ls => if sel k then (runW sel ws z k ls).set (ws.getD k z).1 (ws.getD k z).2 else runW sel ws z k ls
@[simp] theorem runW_length {α : Type} (sel : Nat → Bool) (ws : List (Nat × α)) (z : Nat × α) (k : Nat) (ls : List α) : (runW sel ws z k ls).length = ls.length := by
  induction k with
  | zero => rfl
  | succ k ih => simp only [runW]; split <;> simp [ih]

structure DM where
  lasts : List Bytes
  loose : List (Nat × Bytes)
  lost : Bool

/-- the cells of the writes -/
def wcells (ws : List (Nat × Value)) : List Value := ws.flatMap fun p => [.int .i64 (p.1 : Int), p.2]
theorem wcells_length (ws : List (Nat × Value)) : (wcells ws).length = ws.length * 2 := by
  induction ws with
  | nil => rfl
  | cons p ws ih => simp only [wcells, List.flatMap_cons, List.length_append, List.length_cons, List.length_nil] at ih ⊢; omega
theorem wcells_at (ws : List (Nat × Value)) (k : Nat) (h : k < ws.length) : (wcells ws)[k * 2]? = some (.int .i64 ((ws.getD k (0, undef)).1 : Int)) ∧ (wcells ws)[k * 2 + 1]? = some (ws.getD k (0, undef)).2 := by
  induction ws generalizing k with
  | nil => simp at h
  | cons p ws ih =>
    cases k with
    | zero => simp [wcells]
    | succ k =>
      have := ih k (by simpa using h)
      have e1 : (k + 1) * 2 = k * 2 + 1 + 1 := by omega
      simp only [wcells, List.flatMap_cons, List.cons_append, List.nil_append, e1, List.getElem?_cons_succ, List.getD_cons_succ] at this ⊢
      exact this

set_option maxHeartbeats 400000 in
set_option maxRecDepth 100000 in
theorem flush_walk (db lb ob n k cap c : Nat) (ao0 : Option Addr) (cs : List Value) (ws : List (Nat × Value)) (w : World)
    (hD : w.heap[db]? = some (.cells #[.slice (some ⟨lb, 0, none⟩) n c, .slice ao0 k cap, .bool false] tDrive (0, 0)))
    (hl : w.heap[lb]? = some (.cells cs.toArray tBytes (0, 0))) (hcs : cs.length = n) (hk : ws.length = k)
    (hw : ∀ j, j < k → (ws.getD j (0, undef)).1 < n ∧ (∃ ao m k, (ws.getD j (0, undef)).2 = .slice ao m k) ∧ w.cell? ⟨ob, j * 2, none⟩ = some (.int .i64 ((ws.getD j (0, undef)).1 : Int)) ∧ w.cell? ⟨ob, j * 2 + 1, none⟩ = some (ws.getD j (0, undef)).2)
    (hne1 : lb ≠ db) (hne2 : lb ≠ ob) (hkm : k ≤ 1000000000) (hao : 0 < k → ao0 = some ⟨ob, 0, none⟩) :
    Calls Try.prog 70 #[.pointer (some ⟨db, 0, none⟩)] w fun e w' => e = .returned (.int .i64 0) ∧ Mod (fun b => b = db ∨ b = lb) w w' ∧
      w'.heap[lb]? = some (.cells (runW (fun _ => true) ws (0, undef) k cs).toArray tBytes (0, 0)) ∧
      w'.heap[db]? = some (.cells #[.slice (some ⟨lb, 0, none⟩) n c, .slice none 0 0, .bool false] tDrive (0, 0)) := by
  have h0 : w.cell? ⟨db, 0, none⟩ = some (.slice (some ⟨lb, 0, none⟩) n c) := blk_cell hD rfl
  have h1 : w.cell? ⟨db, 1, none⟩ = some (.slice ao0 k cap) := blk_cell hD rfl
  have h2 : w.cell? ⟨db, 2, none⟩ = some (.bool false) := blk_cell hD rfl
  have hf := blk_free hD 1
  have HD := Lib.hid hD; clear hD
  go_enter Try.func70, Try.ntmps70
  go_wp2
  subst hk
  go_loopw [18] (fun i wr => ∃ j : Nat, j ≤ ws.length ∧ i = .int .i64 j ∧ Mod (fun b => b = lb) w wr ∧ wr.heap[lb]? = some (.cells (runW (fun _ => true) ws (0, undef) j cs).toArray tBytes (0, 0)))
    (fun i _ => ws.length - (intOf i).toNat)
  case atStart => exact ⟨0, by omega, rfl, Mod.refl _ _, hl⟩
  case round =>
    obtain ⟨j, hj, rfl, hm, hlr⟩ := hrel
    have k0 := (hm.cell (p := ⟨db, 0, none⟩) (World.block_lt_of_cell? w _ h0) hne1.symm).trans h0
    have k1 := (hm.cell (p := ⟨db, 1, none⟩) (World.block_lt_of_cell? w _ h1) hne1.symm).trans h1
    have k1f := (hm.frozen (p := ⟨db, 1, none⟩) (World.block_lt_of_cell? w _ h1) hne1.symm).trans hf
    clear h0 h1 h2 hf hl
    by_cases hlt : j < ws.length
    · obtain rfl := hao (by omega)
      obtain ⟨w1, ⟨ao, m, c', w2⟩, w3, w4⟩ := hw j hlt
      have hob := World.block_lt_of_cell? w _ w3
      have c1 := (hm.cell (p := ⟨ob, j * 2, none⟩) hob hne2.symm).trans w3
      have c2 := (hm.cell (p := ⟨ob, j * 2 + 1, none⟩) hob hne2.symm).trans w4
      clear w3 w4 hob
      have HW := Lib.hid hw; have HC := Lib.hid hcs; clear hw hcs
      have e2 : runW (fun _ => true) ws (0, undef) (j + 1) cs = (runW (fun _ => true) ws (0, undef) j cs).set (ws.getD j (0, undef)).1 (ws.getD j (0, undef)).2 := by simp [runW]
      have E2 := Lib.hid e2; clear e2
      have HLR := Lib.hid hlr; clear hlr
      generalize ws.getD j (0, undef) = pr at *
      obtain ⟨sl, bv⟩ := pr
      simp only at w1 w2 c1 c2 E2
      subst w2
      go_wp2_with (fail)
      have hm1 : Mod (fun b => b = lb) wr (wr.alloc (.cells #[.int .i64 (sl : Int), .slice ao m c'] tWrite)) := (Mod.refl _ _).alloc _
      refine (do_any db lb sl n c (.slice ao m c') _ _ (by rw [World.cell?_alloc_lt _ _ _ (World.block_lt_of_cell? wr _ k0)]; exact k0) (blk_alloc HLR.out _) w1 (by simp [HC.out]) ⟨_, _, _, rfl⟩).mono ?_
      rintro e w2 ⟨rfl, hm2, hl2⟩
      have hm3 := (hm.trans hm1).trans hm2
      have hl3 : w2.heap[lb]? = some (.cells (runW (fun _ => true) ws (0, undef) (j + 1) cs).toArray tBytes (0, 0)) := by
        rw [hl2, E2.out]; simp
      clear hm2 hl2 hm1 HLR E2 k0 k1 k1f c1 c2 hm
      go_wp2
      go_roundw
      case rel => exact ⟨j + 1, by omega, by go_num, hm3, hl3⟩
      case measure => simp [intOf]; omega
    · obtain rfl : j = ws.length := by omega
      have hm' : Mod (fun b => b = db ∨ b = lb) w wr := hm.mono fun _ _ h => .inr h
      have hD' := blk_mod hm HD.out (Ne.symm hne1)
      have HLR := Lib.hid hlr; have HD' := Lib.hid hD'; clear hlr hD'
      go_wp2
      go_ret
      refine ⟨rfl, hm'.setCell (p := ⟨db, 1, none⟩) (fun _ => .inl rfl) _, ?_, blk_set HD'.out 1 _⟩
      rw [Below.heap_setCell _ _ _ _ (by exact hne1)]
      exact HLR.out
end Go.Proofs.Fl

namespace Go.Proofs.Fl
open Go.RowKit

/-- Which loose writes last. -/
def crashSel (x : Nat) (j : Nat) : Bool := decide (j < 64) && x.testBit j
theorem bit_val (x j : Nat) (hx : x ≤ 18446744073709551615) : bits BinOp.and IntKind.u64 ((x : Int) / 2 ^ j) 1 = if x.testBit j then 1 else 0 := by
  have h1 : (x : Int) / 2 ^ j = ((x / 2 ^ j : Nat) : Int) := by simp
  have h2 : x / 2 ^ j ≤ x := Nat.div_le_self _ _
  rw [h1]
  have h3 := u64_and_nat (x / 2 ^ j) 1 (by omega) (by decide)
  rw [show ((1 : Nat) : Int) = 1 from rfl] at h3
  rw [h3, Nat.testBit_eq_decide_div_mod_eq, Nat.and_one_is_mod]
  by_cases h : x / 2 ^ j % 2 = 1
  · simp [h]
  · have : x / 2 ^ j % 2 = 0 := by omega
    simp [this]
theorem bit_one (x j : Nat) (hx : x ≤ 18446744073709551615) (h : x.testBit j = true) : bits BinOp.and IntKind.u64 ((x : Int) / 2 ^ j) 1 = 1 := by rw [bit_val x j hx, h]; rfl
theorem bit_zero (x j : Nat) (hx : x ≤ 18446744073709551615) (h : x.testBit j = false) : bits BinOp.and IntKind.u64 ((x : Int) / 2 ^ j) 1 = 0 := by rw [bit_val x j hx, h]; rfl

set_option maxHeartbeats 400000 in
set_option maxRecDepth 100000 in
theorem crash_walk (db lb ob n k cap c : Nat) (ao0 : Option Addr) (x : Nat) (bl : Bool) (hx : x ≤ 18446744073709551615) (cs : List Value) (ws : List (Nat × Value)) (w : World)
    (hD : w.heap[db]? = some (.cells #[.slice (some ⟨lb, 0, none⟩) n c, .slice ao0 k cap, .bool bl] tDrive (0, 0)))
    (hl : w.heap[lb]? = some (.cells cs.toArray tBytes (0, 0))) (hcs : cs.length = n) (hk : ws.length = k)
    (hw : ∀ j, j < k → (ws.getD j (0, undef)).1 < n ∧ (∃ ao m k, (ws.getD j (0, undef)).2 = .slice ao m k) ∧ w.cell? ⟨ob, j * 2, none⟩ = some (.int .i64 ((ws.getD j (0, undef)).1 : Int)) ∧ w.cell? ⟨ob, j * 2 + 1, none⟩ = some (ws.getD j (0, undef)).2)
    (hne1 : lb ≠ db) (hne2 : lb ≠ ob) (hkm : k ≤ 1000000000) (hao : 0 < k → ao0 = some ⟨ob, 0, none⟩) :
    Calls Try.prog 73 #[.pointer (some ⟨db, 0, none⟩), .int .u64 x] w fun e w' => e = .returned (.tuple #[]) ∧ Mod (fun b => b = db ∨ b = lb) w w' ∧
      w'.heap[lb]? = some (.cells (runW (crashSel x) ws (0, undef) k cs).toArray tBytes (0, 0)) ∧
      w'.heap[db]? = some (.cells #[.slice (some ⟨lb, 0, none⟩) n c, .slice none 0 0, .bool bl] tDrive (0, 0)) := by
  have h0 : w.cell? ⟨db, 0, none⟩ = some (.slice (some ⟨lb, 0, none⟩) n c) := blk_cell hD rfl
  have h1 : w.cell? ⟨db, 1, none⟩ = some (.slice ao0 k cap) := blk_cell hD rfl
  have h2 : w.cell? ⟨db, 2, none⟩ = some (.bool bl) := blk_cell hD rfl
  have hf := blk_free hD 1
  have HD := Lib.hid hD; clear hD
  have HX := Lib.hid hx; clear hx
  go_enter Try.func73, Try.ntmps73
  go_wp2
  subst hk
  go_loopw [13] (fun i wr => ∃ j : Nat, j ≤ ws.length ∧ i = .int .i64 j ∧ Mod (fun b => b = lb) w wr ∧ wr.heap[lb]? = some (.cells (runW (crashSel x) ws (0, undef) j cs).toArray tBytes (0, 0)))
    (fun i _ => ws.length - (intOf i).toNat)
  case atStart => exact ⟨0, by omega, rfl, Mod.refl _ _, hl⟩
  case round =>
    obtain ⟨j, hj, rfl, hm, hlr⟩ := hrel
    have k0 := (hm.cell (p := ⟨db, 0, none⟩) (World.block_lt_of_cell? w _ h0) hne1.symm).trans h0
    have k1 := (hm.cell (p := ⟨db, 1, none⟩) (World.block_lt_of_cell? w _ h1) hne1.symm).trans h1
    have k1f := (hm.frozen (p := ⟨db, 1, none⟩) (World.block_lt_of_cell? w _ h1) hne1.symm).trans hf
    clear h0 h1 h2 hf hl
    by_cases hlt : j < ws.length
    · obtain rfl := hao (by omega)
      obtain ⟨w1, ⟨ao, m, c', w2⟩, w3, w4⟩ := hw j hlt
      have hob := World.block_lt_of_cell? w _ w3
      have c1 := (hm.cell (p := ⟨ob, j * 2, none⟩) hob hne2.symm).trans w3
      have c2 := (hm.cell (p := ⟨ob, j * 2 + 1, none⟩) hob hne2.symm).trans w4
      clear w3 w4 hob
      have HW := Lib.hid hw; have HC := Lib.hid hcs; clear hw hcs
      have HLR := Lib.hid hlr; clear hlr
      have e2 : runW (crashSel x) ws (0, undef) (j + 1) cs = if crashSel x j then (runW (crashSel x) ws (0, undef) j cs).set (ws.getD j (0, undef)).1 (ws.getD j (0, undef)).2 else runW (crashSel x) ws (0, undef) j cs := by simp [runW]
      generalize ws.getD j (0, undef) = pr at *
      obtain ⟨sl, bv⟩ := pr
      simp only at w1 w2 c1 c2 e2
      subst w2
      by_cases hj64 : j < 64
      · cases hb : x.testBit j
        · have hbt := bit_zero x j HX.out hb
          have hj' : (j : Int) < 64 := by omega
          rw [show crashSel x j = false by simp [crashSel, hb]] at e2
          have E2 := Lib.hid e2; clear e2 hb hj64
          have hm3 : Mod (fun b => b = lb) w (wr.alloc (.cells #[.int .i64 (sl : Int), .slice ao m c'] tWrite)) := hm.alloc _
          have hl3 : (wr.alloc (.cells #[.int .i64 (sl : Int), .slice ao m c'] tWrite)).heap[lb]? = some (.cells (runW (crashSel x) ws (0, undef) (j + 1) cs).toArray tBytes (0, 0)) := by
            rw [E2.out]; exact blk_alloc HLR.out _
          have HM3 := Lib.hid hm3; have HL3 := Lib.hid hl3
          clear HLR E2 hm hm3 hl3
          go_wp2
          go_roundw
          case rel => exact ⟨j + 1, by omega, by go_num, HM3.out, HL3.out⟩
          case measure => simp [intOf]; omega
        · have hbt := bit_one x j HX.out hb
          have hj' : (j : Int) < 64 := by omega
          rw [show crashSel x j = true by simp [crashSel, hb, hj64]] at e2
          have E2 := Lib.hid e2; clear e2 hb hj64
          go_wp2_with (fail)
          have hm1 : Mod (fun b => b = lb) wr (wr.alloc (.cells #[.int .i64 (sl : Int), .slice ao m c'] tWrite)) := (Mod.refl _ _).alloc _
          refine (do_any db lb sl n c (.slice ao m c') _ _ (by rw [World.cell?_alloc_lt _ _ _ (World.block_lt_of_cell? wr _ k0)]; exact k0) (blk_alloc HLR.out _) w1 (by simp [HC.out]) ⟨_, _, _, rfl⟩).mono ?_
          rintro e w2 ⟨rfl, hm2, hl2⟩
          have hm3 := (hm.trans hm1).trans hm2
          have hl3 : w2.heap[lb]? = some (.cells (runW (crashSel x) ws (0, undef) (j + 1) cs).toArray tBytes (0, 0)) := by
            rw [hl2, E2.out]; simp
          clear hm2 hl2 hm1 HLR E2 k0 k1 k1f c1 c2 hm
          go_wp2
          go_roundw
          case rel => exact ⟨j + 1, by omega, by go_num, hm3, hl3⟩
          case measure => simp [intOf]; omega
      · have hj' : ¬ (j : Int) < 64 := by omega
        rw [show crashSel x j = false by simp [crashSel, hj64]] at e2
        have E2 := Lib.hid e2; clear e2 hj64
        have hm3 : Mod (fun b => b = lb) w (wr.alloc (.cells #[.int .i64 (sl : Int), .slice ao m c'] tWrite)) := hm.alloc _
        have hl3 : (wr.alloc (.cells #[.int .i64 (sl : Int), .slice ao m c'] tWrite)).heap[lb]? = some (.cells (runW (crashSel x) ws (0, undef) (j + 1) cs).toArray tBytes (0, 0)) := by
          rw [E2.out]; exact blk_alloc HLR.out _
        have HM3 := Lib.hid hm3; have HL3 := Lib.hid hl3
        clear HLR E2 hm hm3 hl3
        go_wp2
        go_roundw
        case rel => exact ⟨j + 1, by omega, by go_num, HM3.out, HL3.out⟩
        case measure => simp [intOf]; omega
    · obtain rfl : j = ws.length := by omega
      have hm' : Mod (fun b => b = db ∨ b = lb) w wr := hm.mono fun _ _ h => .inr h
      have hD' := blk_mod hm HD.out (Ne.symm hne1)
      have HLR := Lib.hid hlr; have HD' := Lib.hid hD'; clear hlr hD'
      go_wp2
      go_end0
      refine ⟨rfl, hm'.setCell (p := ⟨db, 1, none⟩) (fun _ => .inl rfl) _, ?_, blk_set HD'.out 1 _⟩
      rw [Below.heap_setCell _ _ _ _ (by exact hne1)]
      exact HLR.out
end Go.Proofs.Fl

namespace Go.Proofs.Fl
open Go.RowKit

/-- What a slot has: the last of the first k writes to it. -/
def lastW (ws : List (Nat × Bytes)) (i : Nat) : Nat → Bytes → Bytes
  | 0, b => b
  | k + 1, b => if (ws.getD k (0, [])).1 = i then (ws.getD k (0, [])).2 else lastW ws i k b

set_option maxHeartbeats 800000 in
set_option maxRecDepth 100000 in
theorem read_walk (db lb ob n cap c i : Nat) (ao0 : Option Addr) (bv : Value) (b0 : Bytes) (S : Nat → Prop) (ws : List (Nat × Bytes)) (vs : Nat → Value) (w : World)
    (h0 : w.cell? ⟨db, 0, none⟩ = some (.slice (some ⟨lb, 0, none⟩) n c)) (h1 : w.cell? ⟨db, 1, none⟩ = some (.slice ao0 ws.length cap)) (h2 : w.cell? ⟨db, 2, none⟩ = some (.bool false))
    (hi : i < n) (hc : w.cell? ⟨lb, i, none⟩ = some bv) (hB : Bs w S bv b0) (hl : b0.length ≤ 1000)
    (hw : ∀ j, j < ws.length → Bs w S (vs j) (ws.getD j (0, [])).2 ∧ (ws.getD j (0, [])).2.length ≤ 1000 ∧ w.cell? ⟨ob, j * 2, none⟩ = some (.int .i64 ((ws.getD j (0, [])).1 : Int)) ∧ w.cell? ⟨ob, j * 2 + 1, none⟩ = some (vs j))
    (hkm : ws.length ≤ 1000000000) (hao : 0 < ws.length → ao0 = some ⟨ob, 0, none⟩) :
    Calls Try.prog 75 #[.pointer (some ⟨db, 0, none⟩), .int .i64 i] w fun e w' => ∃ v', e = .returned (.tuple #[v', .int .i64 0]) ∧ Bs w' (Fresh w) v' (lastW ws i ws.length b0) ∧ Below w.heap.size w w' := by
  go_enter Try.func75, Try.ntmps75
  go_wp2_with (fail)
  refine (lasts_ok db lb n c i bv b0 S w h0 h2 hi hc hB hl).mono ?_
  rintro e w1 ⟨v1, rfl, hC, hb⟩
  have g1 := (hb.cell (p := ⟨db, 1, none⟩) (World.block_lt_of_cell? w _ h1)).trans h1
  have HW := Lib.hid hw; clear hw
  go_wp2
  go_loopw [6, 24] (fun u i' wr => ∃ j : Nat, j ≤ ws.length ∧ i' = .int .i64 j ∧ Bs wr (Fresh w) u (lastW ws i j b0) ∧ Below w.heap.size w wr)
    (fun _ i' _ => ws.length - (intOf i').toNat)
  case atStart => exact ⟨0, by omega, rfl, hC, hb⟩
  case round =>
    obtain ⟨j, hj, rfl, hu, hbr⟩ := hrel
    clear hC hb g1 h0 h1 h2 hc hB
    by_cases hlt : j < ws.length
    · obtain rfl := hao (by omega)
      obtain ⟨x1, x2, x3, x4⟩ := HW.out j hlt
      have c1 := (hbr.cell (p := ⟨ob, j * 2, none⟩) (World.block_lt_of_cell? w _ x3)).trans x3
      have c2 := (hbr.cell (p := ⟨ob, j * 2 + 1, none⟩) (World.block_lt_of_cell? w _ x4)).trans x4
      have hB2 := x1.below hbr
      have e2 : lastW ws i (j + 1) b0 = if (ws.getD j (0, [])).1 = i then (ws.getD j (0, [])).2 else lastW ws i j b0 := rfl
      clear x3 x4 x1
      generalize ws.getD j (0, []) = pr at *
      generalize vs j = vj at *
      obtain ⟨sl, lj⟩ := pr
      simp only at x2 c1 c2 e2 hB2
      obtain ⟨ao, m, k, rfl⟩ : ∃ ao m k, vj = .slice ao m k := by obtain ⟨ao, c, e, _⟩ := hB2; exact ⟨ao, _, c, e⟩
      by_cases hs : sl = i
      · subst hs
        rw [if_pos rfl] at e2
        have E2 := Lib.hid e2; clear e2
        go_wp2_with (fail)
        refine (clone_any (hB2.below ((Below.refl _ _).alloc (Nat.le_refl _) _)) (by omega)).mono ?_
        rintro e w2 ⟨v2, rfl, hC2, hb2⟩
        have hbn : Below w.heap.size w w2 := (hbr.alloc hbr.size _).trans (hb2.mono (by have := hbr.size; simp; omega))
        have hC3 : Bs w2 (Fresh w) v2 (lastW ws sl (j + 1) b0) := by rw [E2.out]; exact hC2.mono fun k _ h => by have := hbr.size; simp [Fresh] at h ⊢; omega
        clear hC2 hb2 E2 hB2 c1 c2 hbr hu
        go_wp2
        go_roundw
        case rel => exact ⟨j + 1, by omega, by go_num, hC3, hbn⟩
        case measure => simp [intOf]; omega
      · rw [if_neg hs] at e2
        have hs' : ¬ (sl : Int) = (i : Int) := by omega
        have hC3 : Bs (wr.alloc (.cells #[.int .i64 (sl : Int), .slice ao m k] tWrite)) (Fresh w) u6 (lastW ws i (j + 1) b0) := by rw [e2]; exact hu.below ((Below.refl _ _).alloc (Nat.le_refl _) _)
        have hbn : Below w.heap.size w (wr.alloc (.cells #[.int .i64 (sl : Int), .slice ao m k] tWrite)) := hbr.alloc hbr.size _
        have E3 := Lib.hid hC3; have E4 := Lib.hid hbn
        clear hC3 hbn e2 hB2 hbr hu
        go_wp2
        go_roundw
        case rel => exact ⟨j + 1, by omega, by go_num, E3.out, E4.out⟩
        case measure => simp [intOf]; omega
    · obtain rfl : j = ws.length := by omega
      go_wp2
      go_ret2
      exact ⟨_, rfl, hu, hbr⟩
end Go.Proofs.Fl

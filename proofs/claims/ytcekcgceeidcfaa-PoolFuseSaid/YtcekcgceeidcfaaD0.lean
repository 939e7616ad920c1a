import Derived.Test.YtcekcgceeidcfaaH4
import Derived.RegionTactic
import Derived.ChangeAlike
namespace Go.Proofs.Fl
open Go.RowKit

/-! ### A block of cells -/
theorem blk_cell {w : World} {b : Nat} {cs : Array Value} {T : TypeId} (h : w.heap[b]? = some (.cells cs T (0, 0))) {i : Nat} {v : Value} (hi : cs[i]? = some v) : w.cell? ⟨b, i, none⟩ = some v := by
  simp [World.cell?, h, hi]
theorem blk_free {w : World} {b : Nat} {cs : Array Value} {T : TypeId} (h : w.heap[b]? = some (.cells cs T (0, 0))) (i : Nat) : w.frozen? ⟨b, i, none⟩ = false := by
  simp [World.frozen?, h]
theorem blk_lt {w : World} {b : Nat} {o : Obj} (h : w.heap[b]? = some o) : b < w.heap.size := (Array.getElem?_eq_some_iff.1 h).1
theorem blk_set {w : World} {b : Nat} {cs : Array Value} {T : TypeId} (h : w.heap[b]? = some (.cells cs T (0, 0))) (i : Nat) (u : Value) : (w.setCell ⟨b, i, none⟩ u).heap[b]? = some (.cells (cs.setIfInBounds i u) T (0, 0)) := by
  simp [World.setCell, Array.getElem?_modify, h]
theorem blk_alloc {w : World} {b : Nat} {o : Obj} (h : w.heap[b]? = some o) (x : Obj) : (w.alloc x).heap[b]? = some o := by
  rw [Below.heap_alloc w x b (blk_lt h)]; exact h
theorem blk_mod {S : Nat → Prop} {w w' : World} (hm : Mod S w w') {b : Nat} {o : Obj} (h : w.heap[b]? = some o) (hs : ¬ S b) : w'.heap[b]? = some o := (hm.block b (blk_lt h) hs).trans h

abbrev tDrive : TypeId := 109
abbrev tWrite : TypeId := 129

set_option maxHeartbeats 400000 in
set_option maxRecDepth 100000 in
/-- A write lasts. -/
theorem do_any (db lb i : Nat) (n c : Nat) (bv : Value) (cs : Array Value) (w : World) (h0 : w.cell? ⟨db, 0, none⟩ = some (.slice (some ⟨lb, 0, none⟩) n c)) (hl : w.heap[lb]? = some (.cells cs tBytes (0, 0))) (hi : i < n) (hcs : cs.size = n)
    (hv : ∃ ao m k, bv = .slice ao m k) :
    Calls Try.prog 103 #[.pointer (some ⟨db, 0, none⟩), .agg #[.int .i64 i, bv]] w fun e w' => e = .returned (.tuple #[]) ∧ Mod (· = lb) w w' ∧ w'.heap[lb]? = some (.cells (cs.setIfInBounds i bv) tBytes (0, 0)) := by
  obtain ⟨ao, m, k, rfl⟩ := hv
  have hlb := blk_lt hl
  have hdb := World.block_lt_of_cell? w _ h0
  obtain ⟨u, hu⟩ : ∃ u, w.cell? ⟨lb, i, none⟩ = some u := ⟨cs[i], blk_cell hl (by simp [hcs, hi])⟩
  have hf := blk_free hl i
  have HL := Lib.hid hl; clear hl
  have HC := Lib.hid hcs; clear hcs
  go_enter Try.func103, Try.ntmps103
  go_wp2
  go_region
  go_end0
  refine ⟨rfl, ?_, ?_⟩
  · exact (((Mod.refl (fun x => x = lb) w).setCell (p := ⟨lb, i, none⟩) (fun _ => rfl) _).alloc _).drew
  · exact blk_alloc (blk_set HL.out i (.slice ao m k)) (.cells #[.int .i64 i, .slice ao m k] tWrite)

set_option maxHeartbeats 400000 in
set_option maxRecDepth 100000 in
theorem lost_any (db : Nat) (x : Bool) (w : World) (h : w.cell? ⟨db, 2, none⟩ = some (.bool x)) : Calls Try.prog 98 #[.pointer (some ⟨db, 0, none⟩)] w fun e w' => e = .returned (.bool x) ∧ w = w' := by
  go_enter Try.func98, Try.ntmps98
  go_wp2
  go_ret
  exact ⟨rfl, rfl⟩
theorem lost_nil (w : World) : Calls Try.prog 98 #[.pointer none] w fun e w' => e = .returned (.bool false) ∧ w = w' := by
  go_enter Try.func98, Try.ntmps98
  go_wp2
  go_ret
  exact ⟨rfl, rfl⟩
theorem cap_nil (w : World) : Calls Try.prog 67 #[.pointer none] w fun e w' => e = .returned (.int .i64 0) ∧ w = w' := by
  go_enter Try.func67, Try.ntmps67
  go_wp2_with (go_at_call 98; refine (lost_nil _).mono ?_; rintro e w1 ⟨rfl, rfl⟩)
  go_ret
  exact ⟨rfl, rfl⟩
theorem cap_any (db n c : Nat) (ao : Option Addr) (x : Bool) (w : World) (h0 : w.cell? ⟨db, 0, none⟩ = some (.slice ao n c)) (h : w.cell? ⟨db, 2, none⟩ = some (.bool x)) :
    Calls Try.prog 67 #[.pointer (some ⟨db, 0, none⟩)] w fun e w' => e = .returned (.int .i64 (if x then 0 else n : Nat)) ∧ w = w' := by
  cases x
  all_goals
    go_enter Try.func67, Try.ntmps67
    go_wp2_with (go_at_call 98; refine (lost_any _ _ _ (by assumption)).mono ?_; rintro e w1 ⟨rfl, rfl⟩)
    go_ret
    exact ⟨rfl, rfl⟩
theorem check_ok (db n c i : Nat) (ao : Option Addr) (w : World) (h0 : w.cell? ⟨db, 0, none⟩ = some (.slice ao n c)) (h : w.cell? ⟨db, 2, none⟩ = some (.bool false)) (hi : i < n) :
    Calls Try.prog 104 #[.pointer (some ⟨db, 0, none⟩), .int .i64 i] w fun e w' => e = .returned (.int .i64 0) ∧ w = w' := by
  have h1 : ¬ ((i : Int) < 0) := by omega
  have h2 : ¬ ((n : Int) ≤ (i : Int)) := by omega
  go_enter Try.func104, Try.ntmps104
  go_wp2
  go_ret
  exact ⟨rfl, rfl⟩
theorem lasts_ok (db lb n c i : Nat) (bv : Value) (l : Bytes) (S : Nat → Prop) (w : World) (h0 : w.cell? ⟨db, 0, none⟩ = some (.slice (some ⟨lb, 0, none⟩) n c)) (h : w.cell? ⟨db, 2, none⟩ = some (.bool false)) (hi : i < n)
    (hc : w.cell? ⟨lb, i, none⟩ = some bv) (hB : Bs w S bv l) (hl : l.length ≤ 1000) :
    Calls Try.prog 71 #[.pointer (some ⟨db, 0, none⟩), .int .i64 i] w fun e w' => ∃ v', e = .returned (.tuple #[v', .int .i64 0]) ∧ Bs w' (Fresh w) v' l ∧ Below w.heap.size w w' := by
  obtain ⟨ao, m, k, rfl⟩ : ∃ ao m k, bv = .slice ao m k := by obtain ⟨ao, c, e, _⟩ := hB; exact ⟨ao, _, c, e⟩
  go_enter Try.func71, Try.ntmps71
  go_wp2_with (go_at_call 104; refine (check_ok _ _ _ _ _ _ h0 h hi).mono ?_; rintro e w1 ⟨rfl, rfl⟩)
  refine (clone_any hB (by omega)).mono ?_
  rintro e w1 ⟨v1, rfl, hC, hb⟩
  go_wp2
  go_ret2
  exact ⟨_, rfl, hC, hb⟩
end Go.Proofs.Fl

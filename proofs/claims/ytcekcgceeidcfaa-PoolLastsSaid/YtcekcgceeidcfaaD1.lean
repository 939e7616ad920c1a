import Derived.Test.YtcekcgceeidcfaaD0
namespace Go.Proofs.Fl
open Go.RowKit

/-- The writes that 'sel' chooses among the first k, done. -/
def runW {α : Type} (sel : Nat → Bool) (ws : List (Nat × α)) (z : Nat × α) : Nat → List α → List α
  | 0, ls => ls
  | k + 1, ls => if sel k then (runW sel ws z k ls).set (ws.getD k z).1 (ws.getD k z).2 else runW sel ws z k ls
@[simp] theorem runW_length {α : Type} (sel : Nat → Bool) (ws : List (Nat × α)) (z : Nat × α) (k : Nat) (ls : List α) : (runW sel ws z k ls).length = ls.length := by
  induction k with
  | zero => rfl
  | succ k ih => simp only [runW]; split <;> simp [ih]

structure DM where
  lasts : List Bytes
  loose : List (Nat × Bytes)
  lost : Bool

/-- the cells of the writes -/
def wcells (ws : List (Nat × Value)) : List Value := ws.flatMap fun p => [.int .i64 (p.1 : Int), p.2]
theorem wcells_length (ws : List (Nat × Value)) : (wcells ws).length = ws.length * 2 := by
  induction ws with
  | nil => rfl
  | cons p ws ih => simp only [wcells, List.flatMap_cons, List.length_append, List.length_cons, List.length_nil] at ih ⊢; omega
theorem wcells_at (ws : List (Nat × Value)) (k : Nat) (h : k < ws.length) : (wcells ws)[k * 2]? = some (.int .i64 ((ws.getD k (0, undef)).1 : Int)) ∧ (wcells ws)[k * 2 + 1]? = some (ws.getD k (0, undef)).2 := by
  induction ws generalizing k with
  | nil => simp at h
  | cons p ws ih =>
    cases k with
    | zero => simp [wcells]
    | succ k =>
      have := ih k (by simpa using h)
      have e1 : (k + 1) * 2 = k * 2 + 1 + 1 := by omega
      simp only [wcells, List.flatMap_cons, List.cons_append, List.nil_append, e1, List.getElem?_cons_succ, List.getD_cons_succ] at this ⊢
      exact this

set_option maxHeartbeats 400000 in
set_option maxRecDepth 100000 in
theorem flush_walk (db lb ob n k cap c : Nat) (ao0 : Option Addr) (cs : List Value) (ws : List (Nat × Value)) (w : World)
    (hD : w.heap[db]? = some (.cells #[.slice (some ⟨lb, 0, none⟩) n c, .slice ao0 k cap, .bool false] tDrive (0, 0)))
    (hl : w.heap[lb]? = some (.cells cs.toArray tBytes (0, 0))) (hcs : cs.length = n) (hk : ws.length = k)
    (hw : ∀ j, j < k → (ws.getD j (0, undef)).1 < n ∧ (∃ ao m k, (ws.getD j (0, undef)).2 = .slice ao m k) ∧ w.cell? ⟨ob, j * 2, none⟩ = some (.int .i64 ((ws.getD j (0, undef)).1 : Int)) ∧ w.cell? ⟨ob, j * 2 + 1, none⟩ = some (ws.getD j (0, undef)).2)
    (hne1 : lb ≠ db) (hne2 : lb ≠ ob) (hkm : k ≤ 1000000000) (hao : 0 < k → ao0 = some ⟨ob, 0, none⟩) :
    Calls Try.prog 70 #[.pointer (some ⟨db, 0, none⟩)] w fun e w' => e = .returned (.int .i64 0) ∧ Mod (fun b => b = db ∨ b = lb) w w' ∧
      w'.heap[lb]? = some (.cells (runW (fun _ => true) ws (0, undef) k cs).toArray tBytes (0, 0)) ∧
      w'.heap[db]? = some (.cells #[.slice (some ⟨lb, 0, none⟩) n c, .slice none 0 0, .bool false] tDrive (0, 0)) := by
  have h0 : w.cell? ⟨db, 0, none⟩ = some (.slice (some ⟨lb, 0, none⟩) n c) := blk_cell hD rfl
  have h1 : w.cell? ⟨db, 1, none⟩ = some (.slice ao0 k cap) := blk_cell hD rfl
  have h2 : w.cell? ⟨db, 2, none⟩ = some (.bool false) := blk_cell hD rfl
  have hf := blk_free hD 1
  have HD := Lib.hid hD; clear hD
  go_enter Try.func70, Try.ntmps70
  go_wp2
  subst hk
  go_loopw [18] (fun i wr => ∃ j : Nat, j ≤ ws.length ∧ i = .int .i64 j ∧ Mod (fun b => b = lb) w wr ∧ wr.heap[lb]? = some (.cells (runW (fun _ => true) ws (0, undef) j cs).toArray tBytes (0, 0)))
    (fun i _ => ws.length - (intOf i).toNat)
  case atStart => exact ⟨0, by omega, rfl, Mod.refl _ _, hl⟩
  case round =>
    obtain ⟨j, hj, rfl, hm, hlr⟩ := hrel
    have k0 := (hm.cell (p := ⟨db, 0, none⟩) (World.block_lt_of_cell? w _ h0) hne1.symm).trans h0
    have k1 := (hm.cell (p := ⟨db, 1, none⟩) (World.block_lt_of_cell? w _ h1) hne1.symm).trans h1
    have k1f := (hm.frozen (p := ⟨db, 1, none⟩) (World.block_lt_of_cell? w _ h1) hne1.symm).trans hf
    clear h0 h1 h2 hf hl
    by_cases hlt : j < ws.length
    · obtain rfl := hao (by omega)
      obtain ⟨w1, ⟨ao, m, c', w2⟩, w3, w4⟩ := hw j hlt
      have hob := World.block_lt_of_cell? w _ w3
      have c1 := (hm.cell (p := ⟨ob, j * 2, none⟩) hob hne2.symm).trans w3
      have c2 := (hm.cell (p := ⟨ob, j * 2 + 1, none⟩) hob hne2.symm).trans w4
      clear w3 w4 hob
      have HW := Lib.hid hw; have HC := Lib.hid hcs; clear hw hcs
      have e2 : runW (fun _ => true) ws (0, undef) (j + 1) cs = (runW (fun _ => true) ws (0, undef) j cs).set (ws.getD j (0, undef)).1 (ws.getD j (0, undef)).2 := by simp [runW]
      have E2 := Lib.hid e2; clear e2
      have HLR := Lib.hid hlr; clear hlr
      generalize ws.getD j (0, undef) = pr at *
      obtain ⟨sl, bv⟩ := pr
      simp only at w1 w2 c1 c2 E2
      subst w2
      go_wp2_with (fail)
      have hm1 : Mod (fun b => b = lb) wr (wr.alloc (.cells #[.int .i64 (sl : Int), .slice ao m c'] tWrite)) := (Mod.refl _ _).alloc _
      refine (do_any db lb sl n c (.slice ao m c') _ _ (by rw [World.cell?_alloc_lt _ _ _ (World.block_lt_of_cell? wr _ k0)]; exact k0) (blk_alloc HLR.out _) w1 (by simp [HC.out]) ⟨_, _, _, rfl⟩).mono ?_
      rintro e w2 ⟨rfl, hm2, hl2⟩
      have hm3 := (hm.trans hm1).trans hm2
      have hl3 : w2.heap[lb]? = some (.cells (runW (fun _ => true) ws (0, undef) (j + 1) cs).toArray tBytes (0, 0)) := by
        rw [hl2, E2.out]; simp
      clear hm2 hl2 hm1 HLR E2 k0 k1 k1f c1 c2 hm
      go_wp2
      go_roundw
      case rel => exact ⟨j + 1, by omega, by go_num, hm3, hl3⟩
      case measure => simp [intOf]; omega
    · obtain rfl : j = ws.length := by omega
      have hm' : Mod (fun b => b = db ∨ b = lb) w wr := hm.mono fun _ _ h => .inr h
      have hD' := blk_mod hm HD.out (Ne.symm hne1)
      have HLR := Lib.hid hlr; have HD' := Lib.hid hD'; clear hlr hD'
      go_wp2
      go_ret
      refine ⟨rfl, hm'.setCell (p := ⟨db, 1, none⟩) (fun _ => .inl rfl) _, ?_, blk_set HD'.out 1 _⟩
      rw [Below.heap_setCell _ _ _ _ (by exact hne1)]
      exact HLR.out
end Go.Proofs.Fl

import Derived.Test.YtcekcgceeidcfaaD7
import Derived.Laws.StructEq
import Derived.ChangeKeysEq
namespace Go.Proofs.Fl
open Go.RowKit

theorem eq_int (d : Nat) (x y : Int) (w : World) : (Op.equalIn (d + 1) 3 (.int .i64 x) (.int .i64 y)).run Try.prog w = .ok (x == y) w := by
  simp [Op.equalIn, run_underlying Try.underlying3]
theorem part0 (x y : Int) (w : World) : (part 3 #[.int .i64 x, .int .i64 y] 0).run Try.prog w = .ok (.int .i64 x) w := by kernel_rfl
theorem part1 (x y : Int) (w : World) : (part 3 #[.int .i64 x, .int .i64 y] 1).run Try.prog w = .ok (.int .i64 y) w := by kernel_rfl
theorem cells3 : Try.prog.cellsOf 3 = 1 := by kernel_rfl
theorem eq_pair (a b c d : Int) (w : World) : (binOp .eql 99 (.agg #[.int .i64 a, .int .i64 b]) (.agg #[.int .i64 c, .int .i64 d])).run Try.prog w = .ok (.bool (a == c && b == d)) w := by
  obtain ⟨i0, hi⟩ : ∃ i, Try.prog.info? 3 = some i := Option.isSome_iff_exists.1 (by kernel_rfl : (Try.prog.info? 3).isSome = true)
  simp only [binOp]
  simp [Op.equal, Op.maxDepth]
  rw [run_equalIn_array w 9999 _ _ Try.underlying99 hi, cells3]
  simp only [List.range_succ, List.range_zero, List.nil_append, List.cons_append, Op.eqItems, Sem.run_bind, Nat.mul_one, part0, Result.andThen_ok, eq_int 9998]
  cases (a == c) <;> cases h : (b == d) <;> simp [part1, eq_int 9998, h]

set_option maxHeartbeats 400000 in
set_option maxRecDepth 100000 in
theorem free_fn (a b c : Value) (ok : Bool) (w : World) : Calls Try.prog 64 #[a, b, c, .bool ok] w fun e w' => e = .returned (.bool (!ok)) ∧ w = w' := by
  go_enter Try.func64, Try.ntmps64
  go_wp2
  go_ret
  exact ⟨rfl, rfl⟩

set_option maxHeartbeats 400000 in
set_option maxRecDepth 100000 in
theorem find_fn_no (s k c : Value) (x y : Nat) (w : World) : Calls Try.prog 99 #[s, k, c, .bool false, .pointer (some ⟨x, 0, none⟩), .pointer (some ⟨y, 0, none⟩)] w fun e w' => e = .returned (.bool false) ∧ w = w' := by
  go_enter Try.func99, Try.ntmps99
  go_wp2
  go_ret
  exact ⟨rfl, rfl⟩

set_option maxHeartbeats 400000 in
set_option maxRecDepth 100000 in
theorem find_fn_yes (s k S K : Int) (c : Value) (x y : Nat) (w : World) (h1 : w.cell? ⟨x, 0, none⟩ = some (.int .i64 S)) (h2 : w.cell? ⟨y, 0, none⟩ = some (.int .i64 K)) :
    Calls Try.prog 99 #[.int .i64 s, .int .i64 k, c, .bool true, .pointer (some ⟨x, 0, none⟩), .pointer (some ⟨y, 0, none⟩)] w fun e w' => e = .returned (.bool (s == S && k == K)) ∧ w = w' := by
  have hq := fun a b c d w => eq_pair a b c d w
  go_enter Try.func99, Try.ntmps99
  go_wp2
  go_ret
  exact ⟨rfl, rfl⟩

def HeldP (ob : Nat) (ov : Value) (n : Nat) (xs : List Value) (w w' : World) : Prop :=
  ∃ ov', w'.heap[ob]? = some (.cells #[ov'] 34 (0, 0)) ∧ w'.ownsRow (ob + 1) 99 2 ov' n xs ∧ Mod (fun b => b = ob ∨ ov.ownBlock = some b) w w' ∧ Blk w ov ov'
theorem E34 : Elem Try.prog 34 99 (.agg #[.int .i64 0, .int .i64 0]) 2 16 := ⟨Try.underlying34, by kernel_rfl, by decide, by decide⟩

set_option maxHeartbeats 400000 in
set_option maxRecDepth 100000 in
theorem held_fn_no (s k c : Value) (ob : Nat) (w : World) : Calls Try.prog 68 #[s, k, c, .bool false, .pointer (some ⟨ob, 0, none⟩)] w fun e w' => e = .returned (.bool false) ∧ w = w' := by
  go_enter Try.func68, Try.ntmps68
  go_wp2
  go_ret
  exact ⟨rfl, rfl⟩

set_option maxHeartbeats 400000 in
set_option maxRecDepth 100000 in
theorem held_fn_yes (s k : Int) (c ov : Value) (ob n : Nat) (xs : List Value) (w : World) (hb : w.heap[ob]? = some (.cells #[ov] 34 (0, 0))) (hown : w.ownsRow (ob + 1) 99 2 ov n xs) (hn : n ≤ 1000) :
    Calls Try.prog 68 #[.int .i64 s, .int .i64 k, c, .bool true, .pointer (some ⟨ob, 0, none⟩)] w fun e w' => e = .returned (.bool false) ∧ HeldP ob ov (n + 1) (xs ++ [.int .i64 s, .int .i64 k]) w w' := by
  have hlt := blk_lt hb
  have h1 : w.cell? ⟨ob, 0, none⟩ = some ov := blk_cell hb rfl
  have hf := blk_free hb 0
  have HB := Lib.hid hb; clear hb
  obtain ⟨oa, on_, oc, rfl⟩ := own_shape hown
  have HO := Lib.hid hown
  go_enter Try.func68, Try.ntmps68
  go_wp2_with (at_builtin; refine wpList_app_new rfl _ _ _ rfl E34 (ob + 1) _ 1 hown rfl rfl rfl (by intro u hu; simp at hu; rcases hu with rfl | rfl <;> rfl) (by omega) (by decide) (by omega) ?_)
  intro v' w' hown' hg' _
  have hne : (Value.slice oa on_ oc).ownBlock ≠ some ob := fun e => by have := (HO.out.lt ob e).1; omega
  have hb' : w'.heap[ob]? = some (.cells #[.slice oa on_ oc] 34 (0, 0)) := (hg'.by_.block ob hlt (Ne.symm hne)).trans HB.out
  have hlt' := blk_lt hb'
  have k1 : w'.cell? ⟨ob, 0, none⟩ = some _ := blk_cell hb' rfl
  have k2 := blk_free hb' 0
  obtain ⟨oa2, on2, oc2, rfl⟩ := own_shape hown'
  have hb2 := blk_set hb' 0 (.slice oa2 on2 oc2)
  have hown2 := own_mod hown' ((Mod.refl (fun b => b = ob) w').setCell (p := ⟨ob, 0, none⟩) (fun _ => rfl) (.slice oa2 on2 oc2)) (fun g hg e => by have := (hown'.lt g hg).1; omega)
  have hm : Mod (fun b => b = ob ∨ (Value.slice oa on_ oc).ownBlock = some b) w (w'.setCell ⟨ob, 0, none⟩ (.slice oa2 on2 oc2)) :=
    ((Mod.refl _ w).grown hg'.by_ (fun k hk _ => .inr hk)).setCell (p := ⟨ob, 0, none⟩) (fun _ => .inl rfl) _
  have R := Lib.hid (And.intro hb2 (And.intro hown2 (And.intro hm hg'.blk)))
  clear hb2 hown2 hm hown' hg' hb' hne
  go_wp2
  go_ret
  exact ⟨rfl, _, R.out.1, R.out.2.1, R.out.2.2.1, R.out.2.2.2⟩
end Go.Proofs.Fl

import Derived.Test.YtficmalfoeaibaaXD4toD7
import Derived.Laws.StructEq
import Derived.ChangeKeysEq
namespace Go.Proofs.Fl
open Go.RowKit

theorem eq_int (d : Nat) (x y : Int) (w : World) : (Op.equalIn (d + 1) 3 (.int .i64 x) (.int .i64 y)).run Try.prog w = .ok (x == y) w := by
  simp [Op.equalIn, run_underlying Try.underlying3]
theorem part0 (x y : Int) (w : World) : (part 3 #[.int .i64 x, .int .i64 y] 0).run Try.prog w = .ok (.int .i64 x) w := by kernel_rfl
theorem part1 (x y : Int) (w : World) : (part 3 #[.int .i64 x, .int .i64 y] 1).run Try.prog w = .ok (.int .i64 y) w := by kernel_rfl
theorem cells3 : Try.prog.cellsOf 3 = 1 := by kernel_rfl
theorem eq_pair (a b c d : Int) (w : World) : (binOp .eql 99 (.agg #[.int .i64 a, .int .i64 b]) (.agg #[.int .i64 c, .int .i64 d])).run Try.prog w = .ok (.bool (a == c && b == d)) w := by
  obtain ⟨i0, hi⟩ : ∃ i, Try.prog.info? 3 = some i := Option.isSome_iff_exists.1 (by kernel_rfl : (Try.prog.info? 3).isSome = true)
  simp only [binOp]
  simp [Op.equal, Op.maxDepth]
  rw [run_equalIn_array w 9999 _ _ Try.underlying99 hi, cells3]
  simp only [List.range_succ, List.range_zero, List.nil_append, List.cons_append, Op.eqItems, Sem.run_bind, Nat.mul_one, part0, Result.andThen_ok, eq_int 9998]
  cases (a == c) <;> cases h : (b == d) <;> simp [part1, eq_int 9998, h]

set_option maxHeartbeats 400000 in
set_option maxRecDepth 100000 in
theorem free_fn (a b c : Value) (ok : Bool) (w : World) : Calls Try.prog 64 #[a, b, c, .bool ok] w fun e w' => e = .returned (.bool (!ok)) ∧ w = w' := by
  go_enter Try.func64, Try.ntmps64
  go_wp2
  go_ret
  exact ⟨rfl, rfl⟩

set_option maxHeartbeats 400000 in
set_option maxRecDepth 100000 in
theorem find_fn_no (s k c : Value) (x y : Nat) (w : World) : Calls Try.prog 99 #[s, k, c, .bool false, .pointer (some ⟨x, 0, none⟩), .pointer (some ⟨y, 0, none⟩)] w fun e w' => e = .returned (.bool false) ∧ w = w' := by
  go_enter Try.func99, Try.ntmps99
  go_wp2
  go_ret
  exact ⟨rfl, rfl⟩

set_option maxHeartbeats 400000 in
set_option maxRecDepth 100000 in
theorem find_fn_yes (s k S K : Int) (c : Value) (x y : Nat) (w : World) (h1 : w.cell? ⟨x, 0, none⟩ = some (.int .i64 S)) (h2 : w.cell? ⟨y, 0, none⟩ = some (.int .i64 K)) :
    Calls Try.prog 99 #[.int .i64 s, .int .i64 k, c, .bool true, .pointer (some ⟨x, 0, none⟩), .pointer (some ⟨y, 0, none⟩)] w fun e w' => e = .returned (.bool (s == S && k == K)) ∧ w = w' := by
  have hq := fun a b c d w => eq_pair a b c d w
  go_enter Try.func99, Try.ntmps99
  go_wp2
  go_ret
  exact ⟨rfl, rfl⟩

def HeldP (ob : Nat) (ov : Value) (n : Nat) (xs : List Value) (w w' : World) : Prop :=
  ∃ ov', w'.heap[ob]? = some (.cells #[ov'] 34 (0, 0)) ∧ w'.ownsRow (ob + 1) 99 2 ov' n xs ∧ Mod (fun b => b = ob ∨ ov.ownBlock = some b) w w' ∧ Blk w ov ov'
theorem E34 : Elem Try.prog 34 99 (.agg #[.int .i64 0, .int .i64 0]) 2 16 := ⟨Try.underlying34, by kernel_rfl, by decide, by decide⟩

set_option maxHeartbeats 400000 in
set_option maxRecDepth 100000 in
theorem held_fn_no (s k c : Value) (ob : Nat) (w : World) : Calls Try.prog 68 #[s, k, c, .bool false, .pointer (some ⟨ob, 0, none⟩)] w fun e w' => e = .returned (.bool false) ∧ w = w' := by
  go_enter Try.func68, Try.ntmps68
  go_wp2
  go_ret
  exact ⟨rfl, rfl⟩

set_option maxHeartbeats 400000 in
set_option maxRecDepth 100000 in
theorem held_fn_yes (s k : Int) (c ov : Value) (ob n : Nat) (xs : List Value) (w : World) (hb : w.heap[ob]? = some (.cells #[ov] 34 (0, 0))) (hown : w.ownsRow (ob + 1) 99 2 ov n xs) (hn : n ≤ 1000) :
    Calls Try.prog 68 #[.int .i64 s, .int .i64 k, c, .bool true, .pointer (some ⟨ob, 0, none⟩)] w fun e w' => e = .returned (.bool false) ∧ HeldP ob ov (n + 1) (xs ++ [.int .i64 s, .int .i64 k]) w w' := by
  have hlt := blk_lt hb
  have h1 : w.cell? ⟨ob, 0, none⟩ = some ov := blk_cell hb rfl
  have hf := blk_free hb 0
  have HB := Lib.hid hb; clear hb
  obtain ⟨oa, on_, oc, rfl⟩ := own_shape hown
  have HO := Lib.hid hown
  go_enter Try.func68, Try.ntmps68
  go_wp2_with (at_builtin; refine wpList_app_new rfl _ _ _ rfl E34 (ob + 1) _ 1 hown rfl rfl rfl (by intro u hu; simp at hu; rcases hu with rfl | rfl <;> rfl) (by omega) (by decide) (by omega) ?_)
  intro v' w' hown' hg' _
  have hne : (Value.slice oa on_ oc).ownBlock ≠ some ob := fun e => by have := (HO.out.lt ob e).1; omega
  have hb' : w'.heap[ob]? = some (.cells #[.slice oa on_ oc] 34 (0, 0)) := (hg'.by_.block ob hlt (Ne.symm hne)).trans HB.out
  have hlt' := blk_lt hb'
  have k1 : w'.cell? ⟨ob, 0, none⟩ = some _ := blk_cell hb' rfl
  have k2 := blk_free hb' 0
  obtain ⟨oa2, on2, oc2, rfl⟩ := own_shape hown'
  have hb2 := blk_set hb' 0 (.slice oa2 on2 oc2)
  have hown2 := own_mod hown' ((Mod.refl (fun b => b = ob) w').setCell (p := ⟨ob, 0, none⟩) (fun _ => rfl) (.slice oa2 on2 oc2)) (fun g hg e => by have := (hown'.lt g hg).1; omega)
  have hm : Mod (fun b => b = ob ∨ (Value.slice oa on_ oc).ownBlock = some b) w (w'.setCell ⟨ob, 0, none⟩ (.slice oa2 on2 oc2)) :=
    ((Mod.refl _ w).grown hg'.by_ (fun k hk _ => .inr hk)).setCell (p := ⟨ob, 0, none⟩) (fun _ => .inl rfl) _
  have R := Lib.hid (And.intro hb2 (And.intro hown2 (And.intro hm hg'.blk)))
  clear hb2 hown2 hm hown' hg' hb' hne
  go_wp2
  go_ret
  exact ⟨rfl, _, R.out.1, R.out.2.1, R.out.2.2.1, R.out.2.2.2⟩
end Go.Proofs.Fl

namespace Go.Proofs.Fl
open Go.RowKit

abbrev tPool : TypeId := 93
abbrev tPtrDrive : TypeId := 45

structure PM where
  list : List DM
  fuse : Int
  down : Bool

def dNone : DM := ⟨[], [], false⟩
def ptrs (dbs : List Nat) : List Value := dbs.map fun b => .pointer (some ⟨b, 0, none⟩)

/-- A pool in memory. G i: the blocks of drive i. -/
structure PoolIn (w : World) (F : Nat → Prop) (pb : Nat) (lv : Value) (dbs : List Nat) (G : Nat → Nat → Prop) (m : PM) : Prop where
  here : ∀ b, F b → b < w.heap.size
  blk : w.heap[pb]? = some (.cells #[lv, .int .i64 m.fuse, .bool m.down] tPool (0, 0))
  fpb : F pb
  own : w.ownsRow 0 tPtrDrive 1 lv m.list.length (ptrs dbs)
  ownF : ∀ g, lv.ownBlock = some g → F g ∧ g ≠ pb ∧ ∀ i, ¬ G i g
  len : dbs.length = m.list.length
  at_ : ∀ i, i < m.list.length → DriveAt w (G i) (dbs.getD i 0) (m.list.getD i dNone)
  sub : ∀ i b, G i b → F b ∧ b ≠ pb
  apart : ∀ i j b, G i b → G j b → i = j
  few : m.list.length ≤ 12
  fuse1 : -1 ≤ m.fuse
  fuse2 : m.fuse ≤ 9223372036854775807

def PoolAt (w : World) (F : Nat → Prop) (pb : Nat) (m : PM) : Prop := ∃ lv dbs G, PoolIn w F pb lv dbs G m

theorem PoolIn.kept {w w' : World} {F T : Nat → Prop} {pb : Nat} {lv : Value} {dbs : List Nat} {G : Nat → Nat → Prop} {m : PM} (h : PoolIn w F pb lv dbs G m) (hm : Mod T w w') (hT : ∀ b, F b → ¬ T b) : PoolIn w' F pb lv dbs G m :=
  { h with
    here := fun b hb => Nat.lt_of_lt_of_le (h.here b hb) hm.size
    blk := blk_mod hm h.blk (hT _ h.fpb)
    own := own_mod h.own hm fun g hg => hT g (h.ownF g hg).1
    at_ := fun i hi => (h.at_ i hi).kept hm fun b hb => hT b (h.sub i b hb).1 }
theorem PoolAt.kept {w w' : World} {F T : Nat → Prop} {pb : Nat} {m : PM} (h : PoolAt w F pb m) (hm : Mod T w w') (hT : ∀ b, F b → ¬ T b) : PoolAt w' F pb m := by
  obtain ⟨lv, dbs, G, h⟩ := h; exact ⟨lv, dbs, G, h.kept hm hT⟩
theorem PoolAt.below {w w' : World} {F : Nat → Prop} {pb : Nat} {m : PM} (h : PoolAt w F pb m) (hb : Below w.heap.size w w') : PoolAt w' F pb m := h.kept (Mod.of_below (fun _ => False) hb) fun _ _ => id
theorem PoolAt.here {w : World} {F : Nat → Prop} {pb : Nat} {m : PM} (h : PoolAt w F pb m) : ∀ b, F b → b < w.heap.size := by
  obtain ⟨lv, dbs, G, h⟩ := h; exact h.here

/-- What a call on a pool leaves. -/
structure PStep (w : World) (F : Nat → Prop) (pb : Nat) (m' : PM) (w' : World) : Prop where
  mod : Mod F w w'
  at_ : PoolAt w' (Ext F w w') pb m'

theorem Ext.here {w w' : World} {F : Nat → Prop} (h : ∀ b, F b → b < w.heap.size) (hm : w.heap.size ≤ w'.heap.size) : ∀ b, Ext F w w' b → b < w'.heap.size := by
  intro b hb
  rcases hb with hb | hb
  · exact Nat.lt_of_lt_of_le (h b hb) hm
  · exact hb.2

/-- The pool's pointer, and what it leads to: a pool, or nil. -/
def ptrOf (dbs : List Nat) (n : Int) : Value := if 0 ≤ n ∧ n < dbs.length then .pointer (some ⟨dbs.getD n.toNat 0, 0, none⟩) else .pointer none

theorem PoolIn.cell {w : World} {F : Nat → Prop} {pb : Nat} {lv : Value} {dbs : List Nat} {G : Nat → Nat → Prop} {m : PM} (h : PoolIn w F pb lv dbs G m) (i : Nat) (hi : i < m.list.length) :
    ∃ ao cap ob, lv = .slice ao m.list.length cap ∧ ao = some ⟨ob, 0, none⟩ ∧ w.cell? ⟨ob, i, none⟩ = some (.pointer (some ⟨dbs.getD i 0, 0, none⟩)) := by
  rcases h.own.2 with ⟨h1, h2⟩ | ⟨g, cap, cur, h1, _⟩
  · omega
  · have hc := h.own.cells (g := g) (by rw [h1]; rfl) i (.pointer (some ⟨dbs.getD i 0, 0, none⟩)) (by
      have : i < dbs.length := by rw [h.len]; exact hi
      simp [ptrs, List.getD_eq_getElem?_getD, this])
    have ha : (⟨g, 0, none⟩ : Addr).add i = ⟨g, i, none⟩ := by unfold Addr.add; split <;> simp_all
    rw [ha] at hc
    exact ⟨_, cap, g, h1, rfl, hc⟩

set_option maxHeartbeats 400000 in
set_option maxRecDepth 100000 in
theorem drive_of_nil (n : Int) (w : World) : Calls Try.prog 30 #[.pointer none, .int .i64 n] w fun e w' => e = .returned (.pointer none) ∧ w = w' := by
  go_enter Try.func30, Try.ntmps30
  go_wp2
  go_ret
  exact ⟨rfl, rfl⟩

set_option maxHeartbeats 800000 in
set_option maxRecDepth 100000 in
theorem drive_of {w : World} {F : Nat → Prop} {pb : Nat} {lv : Value} {dbs : List Nat} {G : Nat → Nat → Prop} {m : PM} (h : PoolIn w F pb lv dbs G m) (n : Int) :
    Calls Try.prog 30 #[.pointer (some ⟨pb, 0, none⟩), .int .i64 n] w fun e w' => e = .returned (ptrOf dbs n) ∧ w = w' := by
  unfold ptrOf
  rw [h.len]
  obtain ⟨ao, ln, cap, rfl⟩ := own_shape h.own
  have hln : ln = m.list.length := by
    rcases h.own.2 with ⟨h1, h2⟩ | ⟨g, cap, cur, h1, _⟩
    · injection h1 with _ e _; rw [e, h2]
    · injection h1
  have h0 : w.cell? ⟨pb, 0, none⟩ = some (.slice ao ln cap) := blk_cell h.blk rfl
  by_cases hn : n < 0
  · rw [if_neg (by omega)]
    go_enter Try.func30, Try.ntmps30
    go_wp2
    go_ret
    exact ⟨rfl, rfl⟩
  · obtain ⟨k, rfl⟩ : ∃ k : Nat, n = k := ⟨n.toNat, by omega⟩
    by_cases hk : k < m.list.length
    · rw [if_pos (by omega)]
      obtain ⟨ao', cap', ob, e1, rfl, e3⟩ := h.cell k hk
      injection e1 with e1 e2 e4
      subst e1; subst hln; subst e4
      have e : ((k : Int)).toNat = k := rfl
      rw [e]; clear e
      have hk' : ¬ (m.list.length : Int) ≤ (k : Int) := by omega
      have hn' : ¬ (k : Int) < 0 := by omega
      have H := Lib.hid h; clear h
      go_enter Try.func30, Try.ntmps30
      go_wp2
      go_ret
      exact ⟨rfl, rfl⟩
    · rw [if_neg (by omega)]
      subst hln
      have hk' : (m.list.length : Int) ≤ (k : Int) := by omega
      have hn' : ¬ (k : Int) < 0 := by omega
      have H := Lib.hid h; clear h
      go_enter Try.func30, Try.ntmps30
      go_wp2
      go_ret
      exact ⟨rfl, rfl⟩

set_option maxHeartbeats 400000 in
set_option maxRecDepth 100000 in
theorem pool_new (w : World) : Calls Try.prog 18 #[] w fun e w' => ∃ pb, e = .returned (.pointer (some ⟨pb, 0, none⟩)) ∧ w.heap.size ≤ pb ∧ Below w.heap.size w w' ∧ PoolAt w' (Ext (fun _ => False) w w') pb ⟨[], -1, false⟩ := by
  go_enter Try.func18, Try.ntmps18
  go_wp2
  go_ret
  refine ⟨w.heap.size, rfl, Nat.le_refl _, (Below.refl _ _).alloc (Nat.le_refl _) _, .slice none 0 0, [], fun _ _ => False, ?_⟩
  exact {
    here := Ext.here (fun _ => False.elim) (by simp)
    blk := heap_alloc_new w _
    fpb := .inr ⟨Nat.le_refl _, by simp⟩
    own := World.ownsRow_nil _ _ _ _
    ownF := fun g hg => by simp [Value.ownBlock] at hg
    len := rfl
    at_ := fun i hi => by simp at hi
    sub := fun _ _ h => h.elim
    apart := fun _ _ _ h => h.elim
    few := by simp
    fuse1 := by simp
    fuse2 := by simp }
theorem pool_len_nil (w : World) : Calls Try.prog 31 #[.pointer none] w fun e w' => e = .returned (.int .i64 0) ∧ w = w' := by
  go_enter Try.func31, Try.ntmps31
  go_wp2
  go_ret
  exact ⟨rfl, rfl⟩
theorem pool_len {w : World} {F : Nat → Prop} {pb : Nat} {m : PM} (h : PoolAt w F pb m) : Calls Try.prog 31 #[.pointer (some ⟨pb, 0, none⟩)] w fun e w' => e = .returned (.int .i64 m.list.length) ∧ w = w' := by
  obtain ⟨lv, dbs, G, h⟩ := h
  obtain ⟨ao, ln, cap, rfl⟩ := own_shape h.own
  have hln : ln = m.list.length := by
    rcases h.own.2 with ⟨h1, h2⟩ | ⟨g, cap, cur, h1, _⟩
    · injection h1 with _ e _; rw [e, h2]
    · injection h1
  have h0 : w.cell? ⟨pb, 0, none⟩ = some (.slice ao ln cap) := blk_cell h.blk rfl
  subst hln
  have H := Lib.hid h; clear h
  go_enter Try.func31, Try.ntmps31
  go_wp2
  go_ret
  exact ⟨rfl, rfl⟩
end Go.Proofs.Fl

namespace Go.Proofs.Fl
open Go.RowKit

theorem PoolIn.head {w w' : World} {F : Nat → Prop} {pb : Nat} {lv : Value} {dbs : List Nat} {G : Nat → Nat → Prop} {m : PM} (h : PoolIn w F pb lv dbs G m) (hm : Mod (fun b => b = pb) w w') (f : Int) (d : Bool)
    (hb : w'.heap[pb]? = some (.cells #[lv, .int .i64 f, .bool d] tPool (0, 0))) (hf1 : -1 ≤ f) (hf2 : f ≤ 9223372036854775807) : PoolIn w' F pb lv dbs G { m with fuse := f, down := d } where
  here := fun b hb => Nat.lt_of_lt_of_le (h.here b hb) hm.size
  blk := hb
  fpb := h.fpb
  own := own_mod h.own hm fun g hg => (h.ownF g hg).2.1
  ownF := h.ownF
  len := h.len
  at_ := fun i hi => (h.at_ i hi).kept hm fun b hb => (h.sub i b hb).2
  sub := h.sub
  apart := h.apart
  few := h.few
  fuse1 := hf1
  fuse2 := hf2
theorem PoolIn.ext {w' : World} {F : Nat → Prop} {pb : Nat} {lv : Value} {dbs : List Nat} {G : Nat → Nat → Prop} {m : PM} (h : PoolIn w' F pb lv dbs G m) (w0 : World) : PoolIn w' (Ext F w0 w') pb lv dbs G m :=
  { h with
    here := fun b hb => by
      rcases hb with hb | hb
      · exact h.here b hb
      · exact hb.2
    fpb := .inl h.fpb
    ownF := fun g hg => ⟨.inl (h.ownF g hg).1, (h.ownF g hg).2⟩
    sub := fun i b hb => ⟨.inl (h.sub i b hb).1, (h.sub i b hb).2⟩ }
theorem PoolIn.step {w w' : World} {F : Nat → Prop} {pb : Nat} {lv : Value} {dbs : List Nat} {G : Nat → Nat → Prop} {m : PM} (h : PoolIn w F pb lv dbs G m) (hm : Mod (fun b => b = pb) w w') (f : Int) (d : Bool)
    (hb : w'.heap[pb]? = some (.cells #[lv, .int .i64 f, .bool d] tPool (0, 0))) (hf1 : -1 ≤ f) (hf2 : f ≤ 9223372036854775807) : PStep w F pb { m with fuse := f, down := d } w' :=
  ⟨hm.mono fun _ _ e => e ▸ h.fpb, lv, dbs, G, (h.head hm f d hb hf1 hf2).ext w⟩

def PM.burn (m : PM) : Bool × PM :=
  if m.down = true ∨ m.fuse = 0 then (false, { m with down := true }) else if 0 < m.fuse then (true, { m with fuse := m.fuse - 1 }) else (true, m)

def BurnP (pb : Nat) (lv : Value) (f : Int) (d : Bool) (w w' : World) : Prop := Mod (fun b => b = pb) w w' ∧ w'.heap[pb]? = some (.cells #[lv, .int .i64 f, .bool d] tPool (0, 0))

set_option maxHeartbeats 400000 in
set_option maxRecDepth 100000 in
theorem burn_walk (pb : Nat) (lv : Value) (f : Int) (d : Bool) (w : World) (hb : w.heap[pb]? = some (.cells #[lv, .int .i64 f, .bool d] tPool (0, 0))) (hf1 : -1 ≤ f) (hf2 : f ≤ 9223372036854775807) :
    Calls Try.prog 69 #[.pointer (some ⟨pb, 0, none⟩)] w fun e w' => e = .returned (.bool (!(d || f == 0))) ∧ BurnP pb lv (if d || f == 0 then f else if 0 < f then f - 1 else f) (d || f == 0) w w' := by
  have h1 : w.cell? ⟨pb, 1, none⟩ = some (.int .i64 f) := blk_cell hb rfl
  have h2 : w.cell? ⟨pb, 2, none⟩ = some (.bool d) := blk_cell hb rfl
  have f1 := blk_free hb 1
  have f2 := blk_free hb 2
  have HB := Lib.hid hb; clear hb
  cases d with
  | true =>
    simp only [Bool.true_or, if_true, Bool.not_true]
    go_enter Try.func69, Try.ntmps69
    go_wp2
    go_ret
    exact ⟨rfl, (Mod.refl (fun b => b = pb) w).setCell (p := ⟨pb, 2, none⟩) (fun _ => rfl) _, blk_set HB.out 2 _⟩
  | false =>
    by_cases h0 : f = 0
    · subst h0
      simp only [beq_self_eq_true, Bool.or_true, if_true, Bool.not_true]
      go_enter Try.func69, Try.ntmps69
      go_wp2
      go_ret
      exact ⟨rfl, (Mod.refl (fun b => b = pb) w).setCell (p := ⟨pb, 2, none⟩) (fun _ => rfl) _, blk_set HB.out 2 _⟩
    · have h0' : (f == 0) = false := by simpa using h0
      simp only [h0', Bool.or_false, Bool.false_eq_true, if_false, Bool.not_false]
      by_cases hp : 0 < f
      · rw [if_pos hp]
        go_enter Try.func69, Try.ntmps69
        go_wp2
        go_ret
        exact ⟨rfl, (Mod.refl (fun b => b = pb) w).setCell (p := ⟨pb, 1, none⟩) (fun _ => rfl) _, blk_set HB.out 1 _⟩
      · rw [if_neg hp]
        have HF := Lib.hid hf2; clear hf2
        go_enter Try.func69, Try.ntmps69
        go_wp2
        go_ret
        exact ⟨rfl, Mod.refl _ _, HB.out⟩

theorem pool_burn {w : World} {F : Nat → Prop} {pb : Nat} {lv : Value} {dbs : List Nat} {G : Nat → Nat → Prop} {m : PM} (h : PoolIn w F pb lv dbs G m) :
    Calls Try.prog 69 #[.pointer (some ⟨pb, 0, none⟩)] w fun e w' => e = .returned (.bool m.burn.1) ∧ Mod (fun b => b = pb) w w' ∧ PoolIn w' F pb lv dbs G m.burn.2 := by
  refine (burn_walk pb lv m.fuse m.down w h.blk h.fuse1 h.fuse2).mono ?_
  rintro e w' ⟨rfl, hm, hb⟩
  have h1 := h.fuse1; have h2 := h.fuse2
  unfold PM.burn
  cases hd : m.down with
  | true =>
    simp only [hd, Bool.true_or, if_true, Bool.not_true] at hb ⊢
    rw [if_pos (.inl trivial)]
    exact ⟨rfl, hm, h.head hm _ _ hb h1 h2⟩
  | false =>
    by_cases h0 : m.fuse = 0
    · simp only [hd, h0, beq_self_eq_true, Bool.or_true, if_true, Bool.not_true] at hb ⊢
      rw [if_pos (.inr trivial)]
      exact ⟨rfl, hm, h.head hm _ _ hb (by omega) (by omega)⟩
    · have h0' : (m.fuse == 0) = false := by simpa using h0
      simp only [hd, h0', Bool.or_false, Bool.false_eq_true, if_false, Bool.not_false] at hb ⊢
      rw [if_neg (by simp [h0])]
      by_cases hp : 0 < m.fuse
      · rw [if_pos hp] at hb ⊢
        have := h.head hm _ _ hb (by omega) (by omega)
        exact ⟨rfl, hm, this⟩
      · rw [if_neg hp] at hb ⊢
        have := h.head hm _ _ hb h1 h2
        rw [← hd] at this
        exact ⟨rfl, hm, this⟩

set_option maxHeartbeats 400000 in
set_option maxRecDepth 100000 in
theorem fuse_nil (n : Int) (w : World) : Calls Try.prog 24 #[.pointer none, .int .i64 n] w fun e w' => e = .returned (.tuple #[]) ∧ w = w' := by
  go_enter Try.func24, Try.ntmps24
  go_wp2
  go_end0
  exact ⟨rfl, rfl⟩

set_option maxHeartbeats 400000 in
set_option maxRecDepth 100000 in
theorem pool_fuse {w : World} {F : Nat → Prop} {pb : Nat} {m : PM} (h : PoolAt w F pb m) (n : Int) (hn : n ≤ 9223372036854775807) :
    Calls Try.prog 24 #[.pointer (some ⟨pb, 0, none⟩), .int .i64 n] w fun e w' => e = .returned (.tuple #[]) ∧ PStep w F pb { m with fuse := if 0 ≤ n then n else 0 } w' := by
  obtain ⟨lv, dbs, G, h⟩ := h
  have h1 : w.cell? ⟨pb, 1, none⟩ = some (.int .i64 m.fuse) := blk_cell h.blk rfl
  have f1 := blk_free h.blk 1
  have H := Lib.hid h; clear h
  have HN := Lib.hid hn; clear hn
  by_cases h0 : 0 ≤ n
  · rw [if_pos h0]
    go_enter Try.func24, Try.ntmps24
    go_wp2
    go_end0
    exact ⟨rfl, H.out.step ((Mod.refl (fun b => b = pb) w).setCell (p := ⟨pb, 1, none⟩) (fun _ => rfl) _) _ _ (blk_set H.out.blk 1 _) (by omega) HN.out⟩
  · rw [if_neg h0]
    go_enter Try.func24, Try.ntmps24
    go_wp2
    go_end0
    exact ⟨rfl, H.out.step ((Mod.refl (fun b => b = pb) w).setCell (p := ⟨pb, 1, none⟩) (fun _ => rfl) _) _ _ (blk_set H.out.blk 1 _) (by omega) (by omega)⟩

/-! usable -/
def PM.use (m : PM) (n : Int) : Nat := if 0 ≤ n ∧ n < m.list.length then (if (m.list.getD n.toNat dNone).lost then 8 else 0) else 1

set_option maxHeartbeats 400000 in
set_option maxRecDepth 100000 in
theorem usable_nil (n : Int) (w : World) : Calls Try.prog 61 #[.pointer none, .int .i64 n] w fun e w' => e = .returned (.int .i64 1) ∧ w = w' := by
  go_enter Try.func61, Try.ntmps61
  go_wp2_with (go_at_call 30; refine (drive_of_nil _ _).mono ?_; rintro e w1 ⟨rfl, rfl⟩)
  go_ret
  exact ⟨rfl, rfl⟩

set_option maxHeartbeats 400000 in
set_option maxRecDepth 100000 in
theorem pool_usable {w : World} {F : Nat → Prop} {pb : Nat} {m : PM} (h : PoolAt w F pb m) (n : Int) :
    Calls Try.prog 61 #[.pointer (some ⟨pb, 0, none⟩), .int .i64 n] w fun e w' => e = .returned (.int .i64 (m.use n)) ∧ w = w' := by
  obtain ⟨lv, dbs, G, h⟩ := h
  have hdr := drive_of h n
  unfold PM.use
  unfold ptrOf at hdr
  rw [h.len] at hdr
  by_cases hc : 0 ≤ n ∧ n < m.list.length
  · rw [if_pos hc] at hdr ⊢
    have hat := h.at_ n.toNat (by omega)
    have hl := drive_lost hat
    generalize (m.list.getD n.toNat dNone).lost = x at hl
    generalize dbs.getD n.toNat 0 = db at hl hdr
    have H := Lib.hid h; clear h hat hc
    cases x
    all_goals
      go_enter Try.func61, Try.ntmps61
      go_wp2_with (first | (go_at_call 30; refine hdr.mono ?_; rintro e w1 ⟨rfl, rfl⟩) | (go_at_call 98; refine hl.mono ?_; rintro e w1 ⟨rfl, rfl⟩))
      go_ret
      exact ⟨rfl, rfl⟩
  · rw [if_neg hc] at hdr ⊢
    have H := Lib.hid h; clear h hc
    go_enter Try.func61, Try.ntmps61
    go_wp2_with (go_at_call 30; refine hdr.mono ?_; rintro e w1 ⟨rfl, rfl⟩)
    go_ret
    exact ⟨rfl, rfl⟩
end Go.Proofs.Fl

namespace Go.Proofs.Fl
open Go.RowKit

theorem E91 : Elem Try.prog 91 tPtrDrive (.pointer none) 1 8 := ⟨Try.underlying91, by kernel_rfl, by decide, by decide⟩

def AddP (w : World) (pb : Nat) (lv : Value) (f : Int) (d : Bool) (n k : Nat) (xs : List Value) (w' : World) : Prop :=
  ∃ (db : Nat) (lv' : Value) (w1 : World), Below w.heap.size w w1 ∧ DriveAt w1 (Ext (fun _ => False) w w1) db (DM.new n) ∧ w'.ownsRow 0 tPtrDrive 1 lv' (k + 1) (xs ++ [.pointer (some ⟨db, 0, none⟩)]) ∧ Blk w1 lv lv' ∧
    Mod (fun b => b = pb ∨ lv.ownBlock = some b) w1 w' ∧ w'.heap[pb]? = some (.cells #[lv', .int .i64 f, .bool d] tPool (0, 0))

theorem add_nil (s : Int) (w : World) : Calls Try.prog 19 #[.pointer none, .int .i64 s] w fun e w' => e = .returned (.tuple #[.int .i64 0, .int .i64 1]) ∧ w = w' := by
  go_enter Try.func19, Try.ntmps19
  go_wp2
  go_ret2
  exact ⟨rfl, rfl⟩

theorem own_len {w : World} {base e size n : Nat} {oa : Option Addr} {m c : Nat} {xs : List Value} (h : w.ownsRow base e size (.slice oa m c) n xs) : m = n := by
  rcases h.2 with ⟨h1, h2⟩ | ⟨g, cap, cur, h1, _⟩
  · injection h1 with _ e _; rw [e, h2]
  · injection h1
set_option maxHeartbeats 1000000 in
set_option maxRecDepth 100000 in
theorem add_full (pb : Nat) (ao : Option Addr) (k c : Nat) (f : Value) (d : Value) (s : Int) (w : World) (hb : w.heap[pb]? = some (.cells #[.slice ao k c, f, d] tPool (0, 0))) (hk : 12 ≤ k) :
    Calls Try.prog 19 #[.pointer (some ⟨pb, 0, none⟩), .int .i64 s] w fun e w' => e = .returned (.tuple #[.int .i64 0, .int .i64 3]) ∧ w = w' := by
  have h0 : w.cell? ⟨pb, 0, none⟩ = some (.slice ao k c) := blk_cell hb rfl
  have hk' : (12 : Int) ≤ (k : Int) := by omega
  have HB := Lib.hid hb; clear hb
  go_enter Try.func19, Try.ntmps19
  go_wp2
  go_ret2
  exact ⟨rfl, rfl⟩

set_option maxHeartbeats 1000000 in
set_option maxRecDepth 100000 in
theorem add_walk (pb : Nat) (lv : Value) (k : Nat) (xs : List Value) (f : Int) (d : Bool) (s : Int) (w : World) (hb : w.heap[pb]? = some (.cells #[lv, .int .i64 f, .bool d] tPool (0, 0))) (hown : w.ownsRow 0 tPtrDrive 1 lv k xs) (hk : k < 12) (hne : lv.ownBlock ≠ some pb) :
    Calls Try.prog 19 #[.pointer (some ⟨pb, 0, none⟩), .int .i64 s] w fun e w' => e = .returned (.tuple #[.int .i64 k, .int .i64 0]) ∧ AddP w pb lv f d (clampN s) k xs w' := by
  have h0 : w.cell? ⟨pb, 0, none⟩ = some lv := blk_cell hb rfl
  have hf := blk_free hb 0
  have hpb := blk_lt hb
  have hk' : ¬ (12 : Int) ≤ (k : Int) := by omega
  have HB := Lib.hid hb; clear hb
  obtain ⟨oa, on_, oc, rfl⟩ := own_shape hown
  have hon : on_ = k := by
    rcases hown.2 with ⟨h1, h2⟩ | ⟨g, cap, cur, h1, _⟩
    · injection h1 with _ e _; rw [e, h2]
    · injection h1
  subst hon
  have HN := Lib.hid hne; clear hne
  have HO := Lib.hid hown
  go_enter Try.func19, Try.ntmps19
  go_wp2_with (fail)
  have hod := own_drew hown
  clear hown
  go_region_law (first | (refine step_app_new rfl _ _ _ rfl E91 0 _ 1 (by assumption) rfl rfl rfl (by intro u hu; simp at hu; subst hu; rfl) (by omega) (by decide) (by omega) ?_; intro v2 w2 hown2 hg2 _; have hD1 := (hbl.block pb hpb).trans HB.out; have hD2 := (hg2.by_.block pb (blk_lt hD1) (Ne.symm HN.out)).trans hD1; have x1 : w2.cell? ⟨pb, 0, none⟩ = some _ := blk_cell hD2 rfl; have x2 := blk_free hD2 0; obtain ⟨oa2, on2, oc2, rfl⟩ := own_shape hown2) | (go_simp; go_at_call 60; refine (drive_new s _).mono ?_; rintro e w1 ⟨v1, rfl, hnew⟩; obtain ⟨db, rfl, hdb, hbl, hdr⟩ := drive_made (clampN_le s) hnew; clear hnew; have hod1 := own_below hod hbl; clear hod; have h1' := (hbl.cell (p := ⟨pb, 0, none⟩) (by simpa using hpb)).trans h0; have hdb1 := World.block_lt_of_cell? w1 _ h1'; simp only at hdb1))
  all_goals
    have hon2 := own_len hown2
    subst hon2
    have hb' : Below w.heap.size w w1 := ⟨hbl.os, hbl.tape, hbl.output, hbl.size, hbl.block⟩
    have hov : ∀ g, (Value.slice oa on_ oc).ownBlock = some g → g < w.heap.size := fun g hg => (HO.out.lt g hg).2
    have hmA : Mod (fun b => b = pb ∨ (Value.slice oa on_ oc).ownBlock = some b) w1 (w2.setCell ⟨pb, 0, none⟩ (.slice oa2 (on_ + 1) oc2)) :=
      ((Mod.refl _ w1).grown hg2.by_ (fun k hk _ => .inr hk)).setCell (p := ⟨pb, 0, none⟩) (fun _ => .inl rfl) _
    have hne2 : ∀ g, (Value.slice oa2 (on_ + 1) oc2).ownBlock = some g → ¬ g = pb := by
      intro g hg e
      subst e
      rcases hg2.blk with h | ⟨g', h, h'⟩
      · exact HN.out (h ▸ hg)
      · rw [h] at hg; injection hg with hg; have := hb'.size; omega
    have hown3 := own_mod hown2 ((Mod.refl (fun b => b = pb) w2).setCell (p := ⟨pb, 0, none⟩) (fun _ => rfl) (.slice oa2 (on_ + 1) oc2)) hne2
    have hD3 := blk_set hD2 0 (.slice oa2 (on_ + 1) oc2)
    have R := Lib.hid (And.intro hb' (And.intro hdr (And.intro hown3 (And.intro hg2.blk (And.intro hmA hD3)))))
    clear hown3 hmA hD3 hne2 hov hb' hdr hown2 hg2 hbl hod1 h1' hD1 hD2
    go_wp2
    go_ret2
    exact ⟨rfl, _, _, _, R.out.1, R.out.2.1, R.out.2.2.1, R.out.2.2.2.1, R.out.2.2.2.2.1, R.out.2.2.2.2.2⟩

def PM.add (m : PM) (s : Int) : PM := { m with list := m.list ++ [DM.new (clampN s)] }
theorem pool_add {w : World} {F : Nat → Prop} {pb : Nat} {m : PM} (h : PoolAt w F pb m) (s : Int) (hk : m.list.length < 12) :
    Calls Try.prog 19 #[.pointer (some ⟨pb, 0, none⟩), .int .i64 s] w fun e w' => e = .returned (.tuple #[.int .i64 m.list.length, .int .i64 0]) ∧ PStep w F pb (m.add s) w' := by
  obtain ⟨lv, dbs, G, h⟩ := h
  refine (add_walk pb lv m.list.length (ptrs dbs) m.fuse m.down s w h.blk h.own hk (fun e => (h.ownF pb e).2.1 rfl)).mono ?_
  rintro e w' ⟨rfl, db, lv', w1, hb, hdr, hown, hblk, hmod, hD⟩
  have hpb := h.here pb h.fpb
  have hTF : ∀ b, (b = pb ∨ lv.ownBlock = some b) → F b := fun b hb => by
    rcases hb with rfl | hb
    · exact h.fpb
    · exact (h.ownF b hb).1
  have hmW : Mod F w w' := (Mod.of_below F hb).then hmod fun i _ hi => hTF i hi
  have hsz := hb.size
  have hsz2 := hmod.size
  have h1 := h.kept (Mod.of_below (fun _ => False) hb) fun _ _ => id
  have hlv' : ∀ g, lv'.ownBlock = some g → lv.ownBlock = some g ∨ (w1.heap.size ≤ g ∧ g < w'.heap.size) := fun g hg => by
    rcases hblk with e | ⟨g', e, hg'⟩
    · exact .inl (e ▸ hg)
    · rw [e] at hg; injection hg with hg; subst hg
      exact .inr ⟨hg', (hown.lt _ e).2⟩
  refine ⟨rfl, hmW, lv', dbs ++ [db], fun i b => if i = m.list.length then (w.heap.size ≤ b ∧ b < w1.heap.size) else G i b, ?_⟩
  have hnew : DriveAt w' (fun b => w.heap.size ≤ b ∧ b < w1.heap.size) db (DM.new (clampN s)) := by
    have := hdr.kept hmod (fun b hb' hT => by
      rcases hb' with hb' | hb'
      · exact hb'.elim
      · rcases hT with rfl | hT
        · omega
        · have := h.here b (h.ownF b hT).1; omega)
    exact this.mono (fun b hb => by rcases hb with hb | hb; exact hb.elim; exact hb) (fun b hb => by omega)
  exact {
    here := Ext.here h.here hmW.size
    blk := hD
    fpb := .inl h.fpb
    own := by simpa [PM.add, ptrs] using hown
    ownF := fun g hg => by
      rcases hlv' g hg with h' | h'
      · have hx := h.ownF g h'
        refine ⟨.inl hx.1, hx.2.1, fun i => ?_⟩
        have := h.here g hx.1
        split
        · omega
        · exact hx.2.2 i
      · refine ⟨.inr (by omega), by omega, fun i => ?_⟩
        split
        · omega
        · intro hGi; have := h.here g (h.sub i g hGi).1; omega
    len := by simp [PM.add, h.len]
    at_ := fun i hi => by
      have hi' : i < m.list.length + 1 := by simpa [PM.add] using hi
      simp only [PM.add]
      rw [getD_append_one _ _ _ _ (by rw [h.len]; exact hi'), getD_append_one _ _ _ _ hi', h.len]
      by_cases e : i = m.list.length
      · simp only [if_pos e]; exact hnew
      · simp only [if_neg e]
        exact (h1.at_ i (by omega)).kept hmod fun b hb hT => by
          rcases hT with rfl | hT
          · exact (h.sub i _ hb).2 rfl
          · exact (h.ownF b hT).2.2 i hb
    sub := fun i b hGi => by
      split at hGi
      · exact ⟨.inr (by omega), by omega⟩
      · exact ⟨.inl (h.sub i b hGi).1, (h.sub i b hGi).2⟩
    apart := fun i j b hi hj => by
      split at hi
      · split at hj
        · omega
        · have := h.here b (h.sub j b hj).1; omega
      · split at hj
        · have := h.here b (h.sub i b hi).1; omega
        · exact h.apart i j b hi hj
    few := by simp [PM.add]; omega
    fuse1 := h.fuse1
    fuse2 := h.fuse2 }
theorem pool_add_full {w : World} {F : Nat → Prop} {pb : Nat} {m : PM} (h : PoolAt w F pb m) (s : Int) (hk : 12 ≤ m.list.length) :
    Calls Try.prog 19 #[.pointer (some ⟨pb, 0, none⟩), .int .i64 s] w fun e w' => e = .returned (.tuple #[.int .i64 0, .int .i64 3]) ∧ w = w' := by
  obtain ⟨lv, dbs, G, h⟩ := h
  obtain ⟨ao, ln, cap, rfl⟩ := own_shape h.own
  exact add_full pb ao ln cap _ _ s w h.blk (by rw [own_len h.own]; exact hk)
end Go.Proofs.Fl

namespace Go.Proofs.Fl
open Go.RowKit

theorem ret_i64 {a b : Int} (h : a = b) : Ending.returned (.int .i64 a) = .returned (.int .i64 b) := by rw [h]
def firstIn (q : Nat → Bool) (n : Nat) : Option Nat := (List.range n).find? q
def idxV : Option Nat → Int | some i => i | none => -1
theorem firstIn_some {q : Nat → Bool} {n k : Nat} (hk : k < n) (h1 : q k = true) (h0 : ∀ j, j < k → q j = false) : firstIn q n = some k := by
  unfold firstIn
  rw [List.find?_range_eq_some]
  exact ⟨h1, by simpa using hk, fun j hj => by simp [h0 j hj]⟩
theorem firstIn_none {q : Nat → Bool} {n : Nat} (h0 : ∀ j, j < n → q j = false) : firstIn q n = none := by
  unfold firstIn
  rw [List.find?_eq_none]
  intro x hx
  have := h0 x (by simpa using hx)
  simp [this]
theorem firstIn_spec {q : Nat → Bool} {n k : Nat} (h : firstIn q n = some k) : k < n ∧ q k = true := by
  unfold firstIn at h
  exact ⟨by simpa using List.mem_of_find?_eq_some h, List.find?_some h⟩

theorem open_none {S : Nat → Prop} {v : Value} {l : Bytes} {w : World} (hB : Bs w S v l) (hn : l.length ≤ 1000000) (h : openF l = none) :
    Calls Try.prog 72 #[v] w fun e w' => e = .returned (.tuple #[.int .i64 0, .int .i64 0, .slice none 0 0, .bool false]) ∧ Below w.heap.size w w' := by
  refine (open_any hB hn).mono ?_
  rintro e w' ⟨v', rfl, ho, hb⟩
  rw [h] at ho
  exact ⟨by rw [ho], hb⟩
theorem open_some {S : Nat → Prop} {v : Value} {l : Bytes} {w : World} (hB : Bs w S v l) (hn : l.length ≤ 1000000) {s p : Nat} {b : Bytes} (h : openF l = some (s, p, b)) :
    Calls Try.prog 72 #[v] w fun e w' => ∃ bv, e = .returned (.tuple #[.int .i64 s, .int .i64 p, bv, .bool true]) ∧ Bs w' (Fresh w) bv b ∧ Below w.heap.size w w' := by
  refine (open_any hB hn).mono ?_
  rintro e w' ⟨v', rfl, ho, hb⟩
  rw [h] at ho
  obtain ⟨bv, rfl, hv⟩ := ho
  exact ⟨bv, rfl, hv, hb⟩

/-- Has a slot that shard? -/
def hasB (S K : Int) (l : Bytes) : Bool :=
  match openF l with
  | none => false
  | some (s, p, _) => ((s : Int) == S) && ((p : Int) == K)

set_option maxHeartbeats 1000000 in
set_option maxRecDepth 100000 in
theorem each_free (pv : Value) (n : Int) (db : Nat) (F : Nat → Prop) (d : DM) (w : World) (h30 : Calls Try.prog 30 #[pv, .int .i64 n] w fun e w' => e = .returned (.pointer (some ⟨db, 0, none⟩)) ∧ w = w')
    (hD : DriveAt w F db d) (hk : d.loose.length ≤ 1000000000) (hlen : ∀ i, i < d.cap → (d.get i).length ≤ 64) (hcap : d.cap ≤ 128) :
    Calls Try.prog 63 #[pv, .int .i64 n, .func (.func 64) #[] #[]] w fun e w' => e = .returned (.int .i64 (idxV (firstIn (fun i => (openF (d.get i)).isNone) d.cap))) ∧ Below w.heap.size w w' := by
  have HL := Lib.hid hlen; clear hlen
  go_enter Try.func63, Try.ntmps63
  go_wp2_with (first | (go_at_call 30; refine h30.mono ?_; rintro e w1 ⟨rfl, rfl⟩) | (go_at_call 67; refine (drive_cap hD).mono ?_; rintro e w1 ⟨rfl, rfl⟩))
  go_loopw [16] (fun i wr => ∃ k : Nat, k ≤ d.cap ∧ i = .int .i64 k ∧ (∀ j, j < k → (fun i => (openF (d.get i)).isNone) j = false) ∧ Below w.heap.size w wr)
    (fun i _ => d.cap - (intOf i).toNat)
  case atStart => exact ⟨0, by omega, rfl, by omega, Below.refl _ _⟩
  case round =>
    obtain ⟨k, hkc, rfl, hq, hb⟩ := hrel
    have HQ := Lib.hid hq; clear hq
    by_cases hlt : k < d.cap
    · have hDr := hD.below hb
      have hl64 := HL.out k hlt
      cases ho : openF (d.get k) with
      | none =>
        have HO := Lib.hid ho; clear ho
        go_wp2_with (fail)
        refine (drive_read hDr k hlt hk).mono ?_
        rintro e w1 ⟨v1, rfl, hv1, hb1⟩
        obtain ⟨ao1, c1, rfl⟩ := hv1.shape
        go_wp2_with (go_at_call 72; refine (open_none hv1 (by omega) HO.out).mono ?_; rintro e w2 ⟨rfl, hb2⟩)
        have hb3 := (hb.trans (hb1.mono hb.size)).trans (hb2.mono (Nat.le_trans hb.size hb1.size))
        clear hv1 hb1 hb2 hDr hb
        have hqk : (fun i => (openF (d.get i)).isNone) k = true := by simp [HO.out]
        refine (free_fn _ _ _ false w2).mono ?_
        rintro e w3 ⟨rfl, rfl⟩
        go_wp2
        go_ret
        exact ⟨ret_i64 (by rw [firstIn_some hlt hqk HQ.out]; rfl), hb3⟩
      | some r =>
        obtain ⟨s, p, b⟩ := r
        have HO := Lib.hid ho; clear ho
        go_wp2_with (fail)
        refine (drive_read hDr k hlt hk).mono ?_
        rintro e w1 ⟨v1, rfl, hv1, hb1⟩
        obtain ⟨ao1, c1, rfl⟩ := hv1.shape
        go_wp2_with (go_at_call 72; refine (open_some hv1 (by omega) HO.out).mono ?_; rintro e w2 ⟨bv, rfl, hbv, hb2⟩)
        have hb3 := (hb.trans (hb1.mono hb.size)).trans (hb2.mono (Nat.le_trans hb.size hb1.size))
        clear hv1 hb1 hb2 hDr hb hbv
        have hqk : (fun i => (openF (d.get i)).isNone) k = false := by simp [HO.out]
        refine (free_fn _ _ _ true w2).mono ?_
        rintro e w3 ⟨rfl, rfl⟩
        go_wp2
        go_roundw
        case rel => exact ⟨k + 1, by omega, by go_num, fun j hj => by
          by_cases e : j = k
          · subst e; exact hqk
          · exact HQ.out j (by omega), hb3⟩
        case measure => simp [intOf]; omega
    · obtain rfl : k = d.cap := by omega
      go_wp2
      go_ret
      exact ⟨ret_i64 (by rw [firstIn_none HQ.out]; rfl), hb⟩

set_option maxHeartbeats 1000000 in
set_option maxRecDepth 100000 in
theorem each_find (pv : Value) (n : Int) (db : Nat) (F : Nat → Prop) (d : DM) (w : World) (x y : Nat) (S K : Int) (h30 : Calls Try.prog 30 #[pv, .int .i64 n] w fun e w' => e = .returned (.pointer (some ⟨db, 0, none⟩)) ∧ w = w')
    (hD : DriveAt w F db d) (hk : d.loose.length ≤ 1000000000) (hlen : ∀ i, i < d.cap → (d.get i).length ≤ 64) (hcap : d.cap ≤ 128) (hx : w.cell? ⟨x, 0, none⟩ = some (.int .i64 S)) (hy : w.cell? ⟨y, 0, none⟩ = some (.int .i64 K)) :
    Calls Try.prog 63 #[pv, .int .i64 n, .func (.func 99) #[] #[.pointer (some ⟨x, 0, none⟩), .pointer (some ⟨y, 0, none⟩)]] w fun e w' => e = .returned (.int .i64 (idxV (firstIn (fun i => hasB S K (d.get i)) d.cap))) ∧ Below w.heap.size w w' := by
  have HL := Lib.hid hlen; clear hlen
  go_enter Try.func63, Try.ntmps63
  go_wp2_with (first | (go_at_call 30; refine h30.mono ?_; rintro e w1 ⟨rfl, rfl⟩) | (go_at_call 67; refine (drive_cap hD).mono ?_; rintro e w1 ⟨rfl, rfl⟩))
  go_loopw [16] (fun i wr => ∃ k : Nat, k ≤ d.cap ∧ i = .int .i64 k ∧ (∀ j, j < k → (fun i => hasB S K (d.get i)) j = false) ∧ Below w.heap.size w wr)
    (fun i _ => d.cap - (intOf i).toNat)
  case atStart => exact ⟨0, by omega, rfl, by omega, Below.refl _ _⟩
  case round =>
    obtain ⟨k, hkc, rfl, hq, hb⟩ := hrel
    have HQ := Lib.hid hq; clear hq
    by_cases hlt : k < d.cap
    · have hDr := hD.below hb
      have hl64 := HL.out k hlt
      cases ho : openF (d.get k) with
      | none =>
        have HO := Lib.hid ho; clear ho
        go_wp2_with (fail)
        refine (drive_read hDr k hlt hk).mono ?_
        rintro e w1 ⟨v1, rfl, hv1, hb1⟩
        obtain ⟨ao1, c1, rfl⟩ := hv1.shape
        go_wp2_with (go_at_call 72; refine (open_none hv1 (by omega) HO.out).mono ?_; rintro e w2 ⟨rfl, hb2⟩)
        have hb3 := (hb.trans (hb1.mono hb.size)).trans (hb2.mono (Nat.le_trans hb.size hb1.size))
        clear hv1 hb1 hb2 hDr hb
        have hqk : (fun i => hasB S K (d.get i)) k = false := by simp [hasB, HO.out]
        refine (find_fn_no _ _ _ x y w2).mono ?_
        rintro e w3 ⟨rfl, rfl⟩
        go_wp2
        go_roundw
        case rel => exact ⟨k + 1, by omega, by go_num, fun j hj => by
          by_cases e : j = k
          · subst e; exact hqk
          · exact HQ.out j (by omega), hb3⟩
        case measure => simp [intOf]; omega
      | some r =>
        obtain ⟨s, p, b⟩ := r
        have HO := Lib.hid ho; clear ho
        go_wp2_with (fail)
        refine (drive_read hDr k hlt hk).mono ?_
        rintro e w1 ⟨v1, rfl, hv1, hb1⟩
        obtain ⟨ao1, c1, rfl⟩ := hv1.shape
        go_wp2_with (go_at_call 72; refine (open_some hv1 (by omega) HO.out).mono ?_; rintro e w2 ⟨bv, rfl, hbv, hb2⟩)
        have hb3 := (hb.trans (hb1.mono hb.size)).trans (hb2.mono (Nat.le_trans hb.size hb1.size))
        clear hv1 hb1 hb2 hDr hb hbv
        have hx2 := (hb3.cell (p := ⟨x, 0, none⟩) (World.block_lt_of_cell? w _ hx)).trans hx
        have hy2 := (hb3.cell (p := ⟨y, 0, none⟩) (World.block_lt_of_cell? w _ hy)).trans hy
        have hfn := find_fn_yes s p S K bv x y w2 hx2 hy2
        have hqe : hasB S K (d.get k) = (((s : Int) == S) && ((p : Int) == K)) := by simp [hasB, HO.out]
        rw [← hqe] at hfn
        clear hx2 hy2 hqe
        cases hqk : hasB S K (d.get k) with
        | false =>
          rw [hqk] at hfn
          have HK := Lib.hid hqk; clear hqk
          refine hfn.mono ?_
          rintro e w3 ⟨rfl, rfl⟩
          clear hfn
          go_wp2
          go_roundw
          case rel => exact ⟨k + 1, by omega, by go_num, fun j hj => by
            by_cases e : j = k
            · subst e; exact HK.out
            · exact HQ.out j (by omega), hb3⟩
          case measure => simp [intOf]; omega
        | true =>
          rw [hqk] at hfn
          have HK := Lib.hid hqk; clear hqk
          refine hfn.mono ?_
          rintro e w3 ⟨rfl, rfl⟩
          clear hfn
          go_wp2
          go_ret
          exact ⟨ret_i64 (by rw [firstIn_some (q := fun i => hasB S K (d.get i)) hlt HK.out HQ.out]; rfl), hb3⟩
    · obtain rfl : k = d.cap := by omega
      go_wp2
      go_ret
      exact ⟨ret_i64 (by rw [firstIn_none HQ.out]; rfl), hb⟩
end Go.Proofs.Fl

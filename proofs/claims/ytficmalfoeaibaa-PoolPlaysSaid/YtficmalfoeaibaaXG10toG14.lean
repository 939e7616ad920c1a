import Derived.Test.YtficmalfoeaibaaXG2toG4
import Derived.Ground.SlbNamesProg
import Derived.Shelf.Lay
import Derived.Shelf.Bytes.SlJoin
import Derived.Test.YtficmalfoeaibaaXG7toG8
import Derived.Test.YtficmalfoeaibaaXG9
namespace Go.Proofs.Fl
open Go.RowKit Go.Shelf

shelf_lay SlLaysJ.n14 Slb 14 at Try as Try.lays90

theorem Bs.holds {w : World} {S : Nat → Prop} {v : Value} {l : Bytes} (h : Bs w S v l) : Lib.HoldsBytes w v l := by
  obtain ⟨ao, c, rfl, h1, h2, h3⟩ := h
  refine ⟨ao, c, rfl, fun e => ?_, fun a ha i x hx => ?_⟩
  · rcases h3 with ⟨_, rfl⟩ | ⟨b, o, rfl, _⟩
    · exact List.eq_nil_of_length_eq_zero (by omega)
    · cases e
  · rcases h3 with ⟨rfl, _⟩ | ⟨b, o, rfl, _, _, hc⟩
    · cases ha
    · injection ha with ha
      subst ha
      have hi := (List.getElem?_eq_some_iff.1 hx).1
      have ea : (⟨b, o, none⟩ : Addr).add i = ⟨b, o + i, none⟩ := by unfold Addr.add; split <;> simp_all
      rw [ea, hc i hi]
      simp [List.getD_eq_getElem?_getD, hx]
theorem Bs.of_freshB {w w' : World} {v : Value} {l : Bytes} (h : Lib.FreshBytes w.heap.size w' v l) (h0 : 0 < l.length) : Bs w' (Fresh w) v l := by
  obtain ⟨g, cap, zs, rfl, hg, hl, hm, hz, hr, hb, hc, _⟩ := h
  refine ⟨_, cap, rfl, hl, hm, ?_⟩
  have hlt := World.block_lt_of_cell? w' _ (hc 0 (by omega))
  refine .inr ⟨g, 0, rfl, hg, hlt, fun j hj => ?_⟩
  rw [Nat.zero_add, hc j (by omega)]
  have e : l.getD j 0 = ((Lib.bytesOf (zs.take l.length)).getD j 0) := by rw [hb]
  have hjz : j < zs.length := by omega
  have hrj := hr _ (List.getElem_mem hjz)
  rw [e]
  simp [Lib.bytesOf, List.getD_eq_getElem?_getD, hj, List.getElem?_eq_getElem hjz]
  omega
theorem join_flat (rows : List Bytes) : Lib.join rows [] = rows.flatten := by
  unfold Lib.join
  induction rows with
  | nil => rfl
  | cons a r ih =>
    cases r with
    | nil => simp [List.intercalate]
    | cons b r => simp_all [List.intercalate]
theorem lens8 (rows : List Bytes) (h8 : ∀ i, i < rows.length → (rows.getD i []).length = 8) : Lib.lens rows = 8 * rows.length ∧ rows.flatten.length = 8 * rows.length := by
  have h : ∀ r ∈ rows, r.length = 8 := fun r hr => by
    obtain ⟨i, hi, e⟩ := List.getElem_of_mem hr
    have := h8 i hi
    simpa [List.getD_eq_getElem?_getD, List.getElem?_eq_getElem hi, e] using this
  clear h8
  induction rows with
  | nil => exact ⟨rfl, rfl⟩
  | cons a r ih =>
    have h1 := h a (by simp)
    have h2 := ih fun x hx => h x (by simp [hx])
    rw [Lib.lens_cons, List.flatten_cons, List.length_append, List.length_cons, h2.1, h2.2]
    omega
theorem Tb.parts {w : World} {S : Nat → Prop} {b o n c : Nat} {rows : List Bytes} (h : Tb w S (.slice (some ⟨b, o, none⟩) n c) rows) (h0 : 0 < rows.length) : ∃ vs, Lib.PartsAt w ⟨b, o, none⟩ vs rows := by
  obtain ⟨vs, e, h1, h2⟩ := h
  refine ⟨vs, e, fun i v hv => ?_, fun i v l hv hl => ?_⟩
  · obtain ⟨b', o', c', ev, _, _, _, hc⟩ := h1.cellAt (by omega)
    injection ev with ev _ _
    injection ev with ev
    injection ev with e1 e2
    subst e1; subst e2
    have hi := (List.getElem?_eq_some_iff.1 hv).1
    have ea : (⟨b, o, none⟩ : Addr).add i = ⟨b, o + i, none⟩ := by unfold Addr.add; split <;> simp_all
    rw [ea, hc i hi]
    simp [List.getD_eq_getElem?_getD, hv]
  · have hi := (List.getElem?_eq_some_iff.1 hl).1
    have := (h2 i hi).holds
    simpa [List.getD_eq_getElem?_getD, hv, hl] using this

theorem join_any {S : Nat → Prop} {v : Value} {rows : List Bytes} {w : World} (h : Tb w S v rows) (h0 : 0 < rows.length) (hn : rows.length ≤ 1000) (h8 : ∀ i, i < rows.length → (rows.getD i []).length = 8) :
    Calls Try.prog 90 #[v, .slice none 0 0] w fun e w' => ∃ v', e = .returned v' ∧ Bs w' (Fresh w) v' rows.flatten ∧ Below w.heap.size w w' := by
  obtain ⟨b, o, c, rfl, _, _, hcap, hcell⟩ := h.cellAt h0
  by_cases h1 : rows.length = 1
  · obtain ⟨ao, k, hc0, hB⟩ := hcell 0 (by omega)
    rw [Nat.add_zero] at hc0
    have hl := h8 0 (by omega)
    obtain ⟨b1, o1, k1, e1, _, _, _⟩ := hB.cellAt (by omega)
    rw [e1] at hc0 hB
    obtain ⟨_, _, e2, _, hB2⟩ := hB.holds
    injection e2 with e2 _ _
    have er : rows.flatten = rows.getD 0 [] := by
      match rows, h1 with
      | [a], _ => simp
    rw [er, h1]
    refine (Any.bytes_Join_one Try.lays90 b o c ⟨b1, o1, none⟩ k1 (rows.getD 0 []) (.slice none 0 0) w hc0 (hB2 _ e2.symm) (by omega) (by omega)).mono ?_
    rintro e w' ⟨v', rfl, hf, hb⟩
    exact ⟨v', rfl, Bs.of_freshB hf (by omega), hb⟩
  · obtain ⟨vs, hP⟩ := h.parts h0
    have hlens := (lens8 rows h8).1
    refine (Any.bytes_Join_many Try.lays90 b o rows.length c vs rows (.slice none 0 0) [] w rfl (by omega) hP hcap ⟨none, 0, rfl, fun _ => rfl, fun a ha => by cases ha⟩ (by omega) (by simp; omega)).mono ?_
    rintro e w' ⟨v', rfl, hf, hb⟩
    rw [join_flat] at hf
    exact ⟨v', rfl, Bs.of_freshB hf (by rw [(lens8 rows h8).2]; omega), hb⟩
end Go.Proofs.Fl

namespace Go.Proofs.Fl
open Go.RowKit

/-! ### which shards are taken -/
def selB (sh : List Bytes) (k : Nat) : Nat → List Nat
  | 0 => []
  | n + 1 => if (sh.getD n []).length ≠ 0 ∧ (selB sh k n).length < k then selB sh k n ++ [n] else selB sh k n
theorem selB_filter (sh : List Bytes) (k n : Nat) : selB sh k n = (List.range n).filter fun i => decide ((sh.getD i []).length ≠ 0 ∧ (selB sh k i).length < k) := by
  induction n with
  | zero => rfl
  | succ n ih =>
    rw [List.range_succ, List.filter_append, ← ih]
    show (if _ then _ else _) = _
    split
    · rename_i h; rw [List.filter_cons_of_pos (by simpa using h)]; rfl
    · rename_i h; rw [List.filter_cons_of_neg (by simpa using h), List.filter_nil, List.append_nil]
theorem selB_le (sh : List Bytes) (k n : Nat) : (selB sh k n).length ≤ k := by
  induction n with
  | zero => simp [selB]
  | succ n ih =>
    unfold selB
    split
    · rename_i h; rw [List.length_append, List.length_singleton]; omega
    · exact ih
theorem selB_len (sh : List Bytes) (k n : Nat) : (selB sh k n).length ≤ n := by
  induction n with
  | zero => simp [selB]
  | succ n ih =>
    unfold selB
    split
    · rw [List.length_append, List.length_singleton]; omega
    · omega
theorem selB_mem (sh : List Bytes) (k n i : Nat) (h : i ∈ selB sh k n) : i < n ∧ (sh.getD i []).length ≠ 0 := by
  rw [selB_filter] at h
  obtain ⟨h1, h2⟩ := List.mem_filter.1 h
  exact ⟨List.mem_range.1 h1, (of_decide_eq_true h2).1⟩

/-- Whichever k rows of the code are taken: each step has a pivot. -/
def chosen (a b c d e f g : Bool) (n : Nat) : List Nat := (List.range n).filter fun i => [a, b, c, d, e, f, g].getD i false
def invOkB (rows : List Bytes) : Bool := (List.range rows.length).all fun i => (pivot (elimK rows rows.length i) i rows.length).isSome
theorem invOk_of (rows : List Bytes) (h : invOkB rows = true) : InvOk rows := by
  intro i hi
  exact (List.all_eq_true.1 h) i (List.mem_range.2 hi)
def allOk (k m : Nat) : Bool := [false, true].all fun a => [false, true].all fun b => [false, true].all fun c => [false, true].all fun d => [false, true].all fun e => [false, true].all fun f => [false, true].all fun g =>
  if (chosen a b c d e f g (k + m)).length = k then invOkB ((chosen a b c d e f g (k + m)).map (rowC k)) else true
set_option maxRecDepth 100000 in
theorem allOk_all : ((List.range 4).all fun a => (List.range 4).all fun m => allOk (a + 1) m) = true := by decide +kernel
theorem allOk_at (k m : Nat) (hk1 : 1 ≤ k) (hk : k ≤ 4) (hm : m ≤ 3) : allOk k m = true := by
  have h := (List.all_eq_true.1 ((List.all_eq_true.1 allOk_all) (k - 1) (List.mem_range.2 (by omega)))) m (List.mem_range.2 (by omega))
  rwa [Nat.sub_add_cancel hk1] at h
theorem bool_mem (b : Bool) : b ∈ [false, true] := by cases b <;> simp
theorem picks_ok (sh : List Bytes) (k m : Nat) (hk1 : 1 ≤ k) (hk : k ≤ 4) (hm : m ≤ 3) (hl : (selB sh k (k + m)).length = k) : InvOk ((selB sh k (k + m)).map (rowC k)) := by
  have h := allOk_at k m hk1 hk hm
  unfold allOk at h
  obtain ⟨p, hp⟩ : ∃ p : Nat → Bool, (fun i => decide ((sh.getD i []).length ≠ 0 ∧ (selB sh k i).length < k)) = p := ⟨_, rfl⟩
  have es : selB sh k (k + m) = chosen (p 0) (p 1) (p 2) (p 3) (p 4) (p 5) (p 6) (k + m) := by
    rw [selB_filter, hp]
    unfold chosen
    refine List.filter_congr fun i hi => ?_
    have hi' := List.mem_range.1 hi
    have : i = 0 ∨ i = 1 ∨ i = 2 ∨ i = 3 ∨ i = 4 ∨ i = 5 ∨ i = 6 := by omega
    rcases this with rfl | rfl | rfl | rfl | rfl | rfl | rfl <;> rfl
  have h := List.all_eq_true.1 h _ (bool_mem (p 0))
  have h := List.all_eq_true.1 h _ (bool_mem (p 1))
  have h := List.all_eq_true.1 h _ (bool_mem (p 2))
  have h := List.all_eq_true.1 h _ (bool_mem (p 3))
  have h := List.all_eq_true.1 h _ (bool_mem (p 4))
  have h := List.all_eq_true.1 h _ (bool_mem (p 5))
  have h := List.all_eq_true.1 h _ (bool_mem (p 6))
  rw [← es, if_pos hl] at h
  exact invOk_of _ h

/-! ### two tables that grow together -/
structure TwoT (w : World) (base : Nat) (v1 v2 : Value) (r1 r2 : List Bytes) : Prop where
  t1 : TabO w base (fun b => b < base) v1 r1
  t2 : TabO w base (fun b => b < base) v2 r2
  ne : ∀ g, v1.ownBlock = some g → v2.ownBlock ≠ some g
theorem TabO.grown {w w' : World} {base : Nat} {S : Nat → Prop} {v v1 v1' : Value} {rows : List Bytes} (h : TabO w base S v rows) (hS : ∀ b, S b → b < base) (hg : Grew w v1 w' v1') (hv1 : ∀ g, v1.ownBlock = some g → base ≤ g) (hne : ∀ g, v1.ownBlock = some g → v.ownBlock ≠ some g) : TabO w' base S v rows := by
  obtain ⟨vs, h1, h2⟩ := h
  have hm : Mod (fun b => v1.ownBlock = some b) w w' := (Mod.refl _ w).grown hg.by_ (fun k hk _ => hk)
  exact ⟨vs, own_mod h1 hm (fun g hg e => hne g e hg), fun i hi => (h2 i hi).kept hm (fun k _ hk e => by have := hS k hk.1; have := hv1 k e; omega)⟩
def decM (k m : Nat) (sh : List Bytes) : Bytes × Nat :=
  if (selB sh k (k + m)).length < k then ([], 8) else ((timesM (invM ((selB sh k (k + m)).map (rowC k))) ((selB sh k (k + m)).map fun i => sh.getD i [])).flatten, 0)
end Go.Proofs.Fl

namespace Go.Proofs.Fl
open Go.RowKit
theorem timesM_length (ra rb : List Bytes) : (timesM ra rb).length = ra.length := by simp [timesM]
theorem timesM_row (ra rb : List Bytes) (i : Nat) (hi : i < ra.length) : ((timesM ra rb).getD i []).length = (rb.getD 0 []).length := by
  unfold timesM
  rw [List.getD_eq_getElem?_getD, List.getElem?_map, List.getElem?_eq_getElem hi, Option.map_some, Option.getD_some, sumK_length]
def Wide (n : Nat) (T : List Bytes) : Prop := T.length = n ∧ ∀ i, i < n → (T.getD i []).length = n + n
theorem Wide.set {n : Nat} {T : List Bytes} (h : Wide n T) (i : Nat) (r : Bytes) (hr : r.length = n + n) : Wide n (T.set i r) := by
  refine ⟨by rw [List.length_set]; exact h.1, fun j hj => ?_⟩
  by_cases e : i = j
  · subst e; rw [getD_set_eq _ _ _ _ (by rw [h.1]; exact hj)]; exact hr
  · rw [getD_set_ne _ _ _ _ _ e]; exact h.2 j hj
theorem Wide.clear {n : Nat} {T : List Bytes} (h : Wide n T) (i : Nat) (hi : i < n) : Wide n (clearM T i) := by
  have hk : ∀ j, j ≤ n → Wide n (clearK i T j) := by
    intro j
    induction j with
    | zero => intro _; exact h.set i _ (by rw [scaleK_length]; exact h.2 i hi)
    | succ j ih =>
      intro hj
      have hj' := ih (by omega)
      by_cases e : j = i
      · rw [clearK_same i T j e]; exact hj'
      · rw [clearK_next i T j e]; exact hj'.set j _ (by rw [addS_length]; exact hj'.2 j (by omega))
  exact hk _ (Nat.le_of_eq h.1)
theorem Wide.swap {n : Nat} {T : List Bytes} (h : Wide n T) (a b : Nat) (ha : a < n) (hb : b < n) : Wide n (swapL T a b []) := by
  refine ⟨by rw [swapL_length]; exact h.1, fun i hi => ?_⟩
  rw [swapL_get _ _ _ _ _ (by rw [h.1]; exact ha) (by rw [h.1]; exact hb)]
  exact h.2 _ (swapI_lt a b i n ha hb hi)
theorem wideR_length (r : Bytes) (n i : Nat) : (wideR r n i).length = r.length + n := by simp [wideR]
theorem elimK_wide (rows : List Bytes) (n : Nat) (hl : ∀ i, i < n → (rows.getD i []).length = n) (hok : ∀ i, i < n → (pivot (elimK rows n i) i n).isSome = true) : ∀ i, i ≤ n → Wide n (elimK rows n i) := by
  intro i
  induction i with
  | zero =>
    intro _
    refine ⟨wideK_length _ _ _, fun j hj => ?_⟩
    show ((wideK rows n n).getD j []).length = _
    unfold wideK
    rw [List.getD_eq_getElem?_getD, List.getElem?_map, List.getElem?_range hj, Option.map_some, Option.getD_some, wideR_length, hl j hj]
  | succ i ih =>
    intro hi
    have h := ih (by omega)
    have ho := hok i (by omega)
    show Wide n (clearM (swapL (elimK rows n i) i (i + (pivot (elimK rows n i) i n).getD 0) []) i)
    cases hp : pivot (elimK rows n i) i n with
    | none => rw [hp] at ho; cases ho
    | some a =>
      rw [Option.getD_some]
      have ha := (firstIn_spec hp).1
      exact (h.swap i (i + a) (by omega) (by omega)).clear i (by omega)
theorem invM_length (rows : List Bytes) : (invM rows).length = rows.length := by unfold invM; rw [List.length_map, elimK_length]
theorem invM_row (rows : List Bytes) (hl : ∀ i, i < rows.length → (rows.getD i []).length = rows.length) (hok : InvOk rows) (i : Nat) (hi : i < rows.length) : ((invM rows).getD i []).length = rows.length := by
  have h := elimK_wide rows rows.length hl hok rows.length (Nat.le_refl _)
  have hlen := h.1
  unfold invM
  rw [List.getD_eq_getElem?_getD, List.getElem?_map, List.getElem?_eq_getElem (by rw [hlen]; exact hi), Option.map_some, Option.getD_some, List.length_drop]
  have := h.2 i hi
  rw [List.getD_eq_getElem?_getD, List.getElem?_eq_getElem (by rw [hlen]; exact hi), Option.getD_some] at this
  omega
theorem map_getD' {α : Type} (l : List α) (f : α → Bytes) (i : Nat) (hi : i < l.length) : ∃ a, a ∈ l ∧ (l.map f).getD i [] = f a :=
  ⟨l[i], List.getElem_mem hi, by rw [List.getD_eq_getElem?_getD, List.getElem?_map, List.getElem?_eq_getElem hi, Option.map_some, Option.getD_some]⟩
end Go.Proofs.Fl

namespace Go.Proofs.Fl
open Go.RowKit

theorem odd_fn (ao : Option Addr) (c n : Nat) (hn : n = 0 ∨ n = 8) (w : World) : Calls Try.prog 86 (#[.slice ao n c] ++ #[]) w fun e w' => e = .returned (.bool false) ∧ w = w' := by
  show Calls Try.prog 86 #[.slice ao n c] w _
  rcases hn with rfl | rfl
  · go_enter Try.func86, Try.ntmps86
    go_wp2
    go_ret
    exact ⟨rfl, rfl⟩
  · go_enter Try.func86, Try.ntmps86
    go_wp2
    go_ret
    exact ⟨rfl, rfl⟩

theorem TwoT.snoc {wr w3 w4 : World} {base : Nat} {v1 v2 v1' v2' x1 x2 : Value} {r1 r2 : List Bytes} {row1 row2 : Bytes} {vs1 vs2 : List Value}
    (o1 : wr.ownsRow base tBytes 1 v1 r1.length vs1) (q1 : ∀ i, i < r1.length → Bs wr (fun b => b < base ∧ v1.ownBlock ≠ some b) (vs1.getD i undef) (r1.getD i []))
    (o2 : wr.ownsRow base tBytes 1 v2 r2.length vs2) (q2 : ∀ i, i < r2.length → Bs wr (fun b => b < base ∧ v2.ownBlock ≠ some b) (vs2.getD i undef) (r2.getD i []))
    (hne : ∀ g, v1.ownBlock = some g → v2.ownBlock ≠ some g) (b1 : Bs wr (fun b => b < base ∧ v1.ownBlock ≠ some b) x1 row1) (b2 : Bs wr (fun b => b < base ∧ v2.ownBlock ≠ some b) x2 row2)
    (ho1 : w3.ownsRow base tBytes 1 v1' (r1.length + 1) (vs1 ++ [x1])) (hg1 : Grew wr v1 w3 v1') (ho2 : w4.ownsRow base tBytes 1 v2' (r2.length + 1) (vs2 ++ [x2])) (hg2 : Grew w3 v2 w4 v2') :
    TwoT w4 base v1' v2' (r1 ++ [row1]) (r2 ++ [row2]) := by
  have hne' : ∀ g, v2.ownBlock = some g → v1'.ownBlock ≠ some g := fun g hg e => by
    rcases hg1.blk with h | ⟨g', h, h'⟩
    · exact hne g (h ▸ e) hg
    · rw [h] at e; injection e with e
      have := (o2.lt g hg).2
      omega
  have hm1 : Mod (fun b => v1.ownBlock = some b) wr w3 := (Mod.refl _ wr).grown hg1.by_ (fun k hk _ => hk)
  have o2' := own_mod o2 hm1 (fun g hg e => hne g e hg)
  have q2' : ∀ i, i < r2.length → Bs w3 (fun b => b < base ∧ v2.ownBlock ≠ some b) (vs2.getD i undef) (r2.getD i []) := fun i hi => (q2 i hi).kept hm1 (fun b _ h e => by have := (o1.lt b e).1; have := h.1; omega)
  have b2' : Bs w3 (fun b => b < base ∧ v2.ownBlock ≠ some b) x2 row2 := b2.kept hm1 (fun b _ h e => by have := (o1.lt b e).1; have := h.1; omega)
  have t1 := TabO.snoc o1 q1 b1 ho1 hg1
  refine ⟨t1.grown (fun b h => h) hg2 (fun g hg => (o2.lt g hg).1) hne', TabO.snoc o2' q2' b2' ho2 hg2, fun g hg e => ?_⟩
  rcases hg2.blk with h | ⟨g', h, h'⟩
  · exact hne' g (h ▸ e) hg
  · rw [h] at e; injection e with e
    have := (ho1.lt g hg).2
    omega
set_option maxHeartbeats 4000000 in
set_option maxRecDepth 100000 in
theorem decode_any {S : Nat → Prop} {v : Value} {sh : List Bytes} {w : World} (k m : Nat) (hk1 : 1 ≤ k) (hk : k ≤ 4) (hm : m ≤ 3) (hT : Tb w S v sh) (hn : sh.length = k + m) (h8 : ∀ i, i < k + m → (sh.getD i []).length = 0 ∨ (sh.getD i []).length = 8) :
    Calls Try.prog 48 #[.int .i64 k, .int .i64 m, v] w fun e w' => ∃ r, e = .returned (.tuple #[r, .int .i64 (decM k m sh).2]) ∧ Bs w' (Fresh w) r (decM k m sh).1 ∧ Below w.heap.size w w' := by
  have hcode := code_any k m hk1 hk hm w
  obtain ⟨sb, so, sc, rfl, _, hsw, _, hcell⟩ := hT.cellAt (by omega)
  rw [hn] at hcell hT ⊢
  have HT := Lib.hid hT; have HC := Lib.hid hcell; have H8 := Lib.hid h8; have HCO := Lib.hid hcode
  have hnil := fun (w : World) (a : Option Addr) (n c : Nat) => Lib.run_eql_slice_nil (P := Try.prog) w _ _ a n c 0 0 Try.underlying59
  have hkm : ((k + m : Nat) : Int) = (k : Int) + (m : Int) := by omega
  clear hT hcell h8 hcode
  go_enter Try.func48, Try.ntmps48
  go_wp2_with (go_at_call 85; refine HCO.out.mono ?_; rintro e w1 ⟨cv, rfl, hcn, hct, hcb⟩; obtain ⟨cvs, hcown, hcr⟩ := hct; obtain ⟨cg, cc, rfl⟩ := own_form hcown (by simp [codeM, codeK_length]; omega); rw [show (codeM k m).length = k + m from codeK_length _ _] at *)
  obtain ⟨svs, se, sv1, sv2⟩ := HT.out.below hcb
  have hcon := contains_any 86 #[] (fun _ => false) S _ svs w1 sv1 (by omega) (fun _ _ => rfl) (fun i hi => by
    obtain ⟨ao, c2, e2⟩ := (sv2 i (by omega)).shape
    rw [e2]
    exact odd_fn ao c2 _ (H8.out i (by omega)) w1)
  rw [firstIn_none (fun _ _ => rfl)] at hcon
  have HCON := Lib.hid hcon
  have hlc := hcown.lt cg rfl
  have HCOWN := Lib.hid hcown; have HCR := Lib.hid hcr
  clear hcon hcown hcr sv1 sv2 hcn se
  refine HCON.out.mono ?_
  rintro e w2 ⟨rfl, rfl⟩
  go_wp2
  go_loopw [10, 11, 38] (fun v1 v2 i wr => ∃ n : Nat, n ≤ k + m ∧ i = .int .i64 n ∧ TwoT wr w1.heap.size v1 v2 ((selB sh k n).map (rowC k)) ((selB sh k n).map fun i => sh.getD i []) ∧ Below w1.heap.size w1 wr)
    (fun _ _ i _ => (k + m) - (intOf i).toNat)
  case atStart => exact ⟨0, by omega, rfl, ⟨TabO.nil _ _ _, TabO.nil _ _ _, fun g hg => by cases hg⟩, Below.refl _ _⟩
  case round =>
    obtain ⟨n, hnk, rfl, ht, hb⟩ := hrel
    obtain ⟨vs1, o1, r1⟩ := ht.t1
    obtain ⟨vs2, o2, r2⟩ := ht.t2
    have hne := ht.ne
    have hq := selB_le sh k n
    have hbw : Below w.heap.size w wr := hcb.trans (hb.mono hcb.size)
    have HTT := Lib.hid ht
    by_cases hlt : n < k + m
    · obtain ⟨ao, kk, x1, hB⟩ := HC.out n hlt
      have hx8 := H8.out n hlt
      have hsel : selB sh k (n + 1) = if (sh.getD n []).length ≠ 0 ∧ (selB sh k n).length < k then selB sh k n ++ [n] else selB sh k n := rfl
      obtain ⟨x, hx⟩ : ∃ x, sh.getD n [] = x := ⟨_, rfl⟩
      rw [hx] at x1 hB hx8 hsel
      have x2 := (hbw.cell (p := ⟨sb, so + n, none⟩) hsw).trans x1
      have y1 := HCOWN.out.cellAt n (by omega)
      have y2 := (hb.cell (p := ⟨cg, n, none⟩) hlc.2).trans y1
      obtain ⟨q, hqq⟩ : ∃ q, (selB sh k n).length = q := ⟨_, rfl⟩
      rw [List.length_map, hqq] at o1 o2 r1 r2
      rw [hqq] at hsel hq
      obtain ⟨a1, n1, c1, rfl⟩ := own_shape o1
      have e1 : q = n1 := (own_len o1).symm
      subst e1
      obtain ⟨a2, n2, c2, rfl⟩ := own_shape o2
      have e2 : q = n2 := (own_len o2).symm
      subst e2
      have hcl : cvs.length = k + m := by have := HCOWN.out.1; simpa using this
      have ey : cvs[n]? = some (cvs.getD n undef) := by simp [List.getD_eq_getElem?_getD, List.getElem?_eq_getElem (show n < cvs.length by omega)]
      have hcB := HCR.out n hlt
      have ecg : (codeM k m).getD n [] = rowC k n := codeK_get k (k + m) n hlt
      rw [ecg] at hcB
      obtain ⟨aoc, kc, ec⟩ := hcB.shape
      rw [rowC_length] at ec
      rw [ey, ec] at y2
      rw [ec] at hcB
      have Y2 := y2
      by_cases hcase : x.length ≠ 0 ∧ q < k
      · rw [if_pos hcase] at hsel
        obtain ⟨hx0, hqk⟩ := hcase
        have hx8' : x.length = 8 := by omega
        have hx8i : (0 : Int) < (x.length : Int) := by omega
        have hqi : (q : Int) < (k : Int) := by omega
        have b1 : Bs wr (fun b => b < w1.heap.size ∧ (Value.slice a1 q c1).ownBlock ≠ some b) (.slice aoc k kc) (rowC k n) :=
          ((hcB.mono (T := fun b => b < w1.heap.size) (fun b hb _ => hb)).below hb).mono fun b _ h => ⟨h, fun e => by have := (o1.lt b e).1; omega⟩
        have b2 : Bs wr (fun b => b < w1.heap.size ∧ (Value.slice a2 q c2).ownBlock ≠ some b) (.slice ao x.length kk) x :=
          (((hB.mono (T := fun b => b < w.heap.size) (fun b hb _ => hb)).below hbw).mono (T := fun b => b < w1.heap.size) fun b _ h => Nat.lt_of_lt_of_le h hcb.size).mono fun b _ h => ⟨h, fun e => by have := (o2.lt b e).1; have h' : b < w1.heap.size := h; omega⟩
        rw [hx8'] at b2
        have HX := Lib.hid hx
        have O1 := Lib.hid o1; have O2 := Lib.hid o2; have R1 := Lib.hid r1; have R2 := Lib.hid r2; have B1 := Lib.hid b1; have B2 := Lib.hid b2
        have HNE := Lib.hid hne; have HS := Lib.hid hsel; have HQ := Lib.hid hqq
        clear o1 o2 r1 r2 b1 b2 hne hsel hqq hcB hB x1 y1 ht HTT ec ey hx
        go_wp2_with (at_builtin; refine wpList_app_new rfl _ _ _ rfl E59 w1.heap.size _ 1 O1.out rfl rfl rfl (by intro u hu; simp at hu; subst hu; rfl) (by omega) (by decide) hb.size ?_)
        intro v1' w3 ho1 hg1 _
        have hm1 : Mod (fun b => (Value.slice a1 q c1).ownBlock = some b) wr w3 := (Mod.refl _ wr).grown hg1.by_ (fun k hk _ => hk)
        have o2' := own_mod O2.out hm1 (fun g hg e => HNE.out g e hg)
        have hb3 := Grew.new hb hb.size hg1 (fun g hg => (O1.out.lt g hg).1)
        obtain ⟨a3, n3, c3, rfl⟩ := own_shape ho1
        have e3 : n3 = q + 1 := own_len ho1
        subst e3
        have HO1 := Lib.hid ho1; have HG1 := Lib.hid hg1; have O2' := Lib.hid o2'
        clear ho1 hg1 o2' hm1
        go_wp2_with (at_builtin; refine wpList_app_new rfl _ _ _ rfl E59 w1.heap.size _ 1 O2'.out rfl rfl rfl (by intro u hu; simp at hu; subst hu; rfl) (by omega) (by decide) hb3.size ?_)
        intro v2' w4 ho2 hg2 _
        have hsn := TwoT.snoc (r1 := (selB sh k n).map (rowC k)) (r2 := (selB sh k n).map fun i => sh.getD i []) (by rw [List.length_map, HQ.out]; exact O1.out) (by rw [List.length_map, HQ.out]; exact R1.out) (by rw [List.length_map, HQ.out]; exact O2.out) (by rw [List.length_map, HQ.out]; exact R2.out) HNE.out B1.out B2.out (by rw [List.length_map, HQ.out]; exact HO1.out) HG1.out (by rw [List.length_map, HQ.out]; exact ho2) hg2
        have hb4 := Grew.new hb3 hb3.size hg2 (fun g hg => (O2'.out.lt g hg).1)
        obtain ⟨a4, n4, c4, rfl⟩ := own_shape ho2
        have e4 : n4 = q + 1 := own_len ho2
        subst e4
        have er1 : (selB sh k (n + 1)).map (rowC k) = (selB sh k n).map (rowC k) ++ [rowC k n] := by rw [HS.out, List.map_append]; rfl
        have er2 : ((selB sh k (n + 1)).map fun i => sh.getD i []) = ((selB sh k n).map fun i => sh.getD i []) ++ [x] := by rw [HS.out, List.map_append, List.map_singleton, HX.out]
        rw [← er1, ← er2] at hsn
        have HSN := Lib.hid hsn; have HB4 := Lib.hid hb4
        clear hsn hb4 hb3 ho2 hg2 er1 er2 hbw
        go_wp2
        go_roundw
        case rel => exact ⟨n + 1, by omega, by go_num, HSN.out, HB4.out⟩
        case measure => simp [intOf]; omega
      · rw [if_neg hcase] at hsel
        rw [← hsel] at HTT
        clear hsel hqq hcB hB x1 y1 ht ec ey hx o1 o2 r1 r2 hne
        rcases hx8 with hx0 | hx0
        · have hx8i : ¬ (0 : Int) < (x.length : Int) := by omega
          clear hcase
          go_wp2
          go_roundw
          case rel => exact ⟨n + 1, by omega, by go_num, HTT.out, hb⟩
          case measure => simp [intOf]; omega
        · have hx8i : (0 : Int) < (x.length : Int) := by omega
          have hqi : ¬ (q : Int) < (k : Int) := by omega
          clear hcase
          go_wp2
          go_roundw
          case rel => exact ⟨n + 1, by omega, by go_num, HTT.out, hb⟩
          case measure => simp [intOf]; omega
    · obtain rfl : n = k + m := by omega
      have hdec : decM k m sh = if (selB sh k (k + m)).length < k then ([], 8) else ((timesM (invM ((selB sh k (k + m)).map (rowC k))) ((selB sh k (k + m)).map fun i => sh.getD i [])).flatten, 0) := rfl
      have hmem := selB_mem sh k (k + m)
      have hpick := picks_ok sh k m hk1 hk hm
      obtain ⟨sel, hsl⟩ : ∃ sel, selB sh k (k + m) = sel := ⟨_, rfl⟩
      rw [hsl] at hdec hmem hpick hq o1 o2 r1 r2 ht
      rw [List.length_map] at o1 o2
      have HMEM := Lib.hid hmem; have HPICK := Lib.hid hpick
      clear hmem hpick r1 r2 hne HTT hsl
      obtain ⟨q, hqq⟩ : ∃ q, sel.length = q := ⟨_, rfl⟩
      rw [hqq] at o1 o2 hq hdec
      obtain ⟨a1, n1, c1, rfl⟩ := own_shape o1
      have e1 : q = n1 := (own_len o1).symm
      subst e1
      obtain ⟨a2, n2, c2, rfl⟩ := own_shape o2
      have e2 : q = n2 := (own_len o2).symm
      subst e2
      have HQ := Lib.hid hqq
      clear o1 o2 hqq
      have HTT := Lib.hid ht
      clear ht
      by_cases hqk : q < k
      · rw [if_pos hqk] at hdec
        have hqi : (q : Int) < (k : Int) := by omega
        have HD := Lib.hid hdec
        clear hdec
        go_wp2
        go_ret2
        rw [HD.out]
        exact ⟨_, rfl, Bs.nil _ _, hbw⟩
      · rw [if_neg hqk] at hdec
        have hqi : ¬ (q : Int) < (k : Int) := by omega
        obtain rfl : q = k := by omega
        have HD := Lib.hid hdec
        clear hdec
        have hT1 : Tb wr (fun _ => True) _ (sel.map (rowC q)) := HTT.out.t1.toTb (fun _ _ => trivial) (fun _ _ => trivial)
        have hT2 : Tb wr (fun _ => True) _ (sel.map fun i => sh.getD i []) := HTT.out.t2.toTb (fun _ _ => trivial) (fun _ _ => trivial)
        have hok := HPICK.out HQ.out
        have hl1 : ∀ i, i < q → ((sel.map (rowC q)).getD i []).length = q := fun i hi => by
          obtain ⟨a, _, e⟩ := map_getD' sel (rowC q) i (by rw [HQ.out]; exact hi)
          rw [e, rowC_length]
        have hlen1 : (sel.map (rowC q)).length = q := by rw [List.length_map, HQ.out]
        have hinv := invert_any hT1 q hlen1 (by omega) (by omega) hl1 hok
        have hil := invM_length (sel.map (rowC q))
        have hir := invM_row (sel.map (rowC q)) (by rw [hlen1]; exact hl1) hok
        rw [hlen1] at hil hir
        have hl2 : ∀ i, i < q → ((sel.map fun i => sh.getD i []).getD i []).length = 8 := fun i hi => by
          obtain ⟨a, ha, e⟩ := map_getD' sel (fun i => sh.getD i []) i (by rw [HQ.out]; exact hi)
          rw [e]
          have h1 := HMEM.out a ha
          have h2 := H8.out a h1.1
          omega
        have hlen2 : (sel.map fun i => sh.getD i []).length = q := by rw [List.length_map, HQ.out]
        have hfit : Fits (invM (sel.map (rowC q))) (sel.map fun i => sh.getD i []) 8 := ⟨by omega, by omega, by omega, by omega, by omega, fun i hi => by rw [hlen2]; exact hir i (by omega), fun i hi => hl2 i (by omega)⟩
        have htl := timesM_length (invM (sel.map (rowC q))) (sel.map fun i => sh.getD i [])
        have htr : ∀ i, i < q → ((timesM (invM (sel.map (rowC q))) (sel.map fun i => sh.getD i [])).getD i []).length = 8 := fun i hi => by
          rw [timesM_row _ _ i (by omega)]; exact hl2 0 (by omega)
        generalize sel.map (rowC q) = R at *
        generalize hH : (sel.map fun i => sh.getD i []) = H at *
        generalize invM R = R' at *
        have HINV := Lib.hid hinv; have HT2 := Lib.hid hT2; have HFIT := Lib.hid hfit; have HTL := Lib.hid htl; have HTR := Lib.hid htr; have HIL := Lib.hid hil
        clear hinv hT1 hT2 hok hl1 hlen1 hil hir hl2 hlen2 hfit htl htr hH HPICK HMEM HQ
        go_wp2_with (fail)
        refine HINV.out.mono ?_
        rintro e w5 ⟨r5, rfl, ht5, hb5⟩
        have hT5 : Tb w5 (fun _ => True) r5 R' := ht5.toTb (fun _ _ => trivial) (fun _ _ => trivial)
        have htimes := times_any hT5 (HT2.out.below hb5) 8 HFIT.out
        have HTIM := Lib.hid htimes
        obtain ⟨ao5, kc5, rfl⟩ := hT5.shape
        clear htimes hT5 ht5
        go_wp2_with (fail)
        refine HTIM.out.mono ?_
        rintro e w6 ⟨r6, rfl, ht6, hb6⟩
        have hT6 : Tb w6 (fun _ => True) r6 (timesM R' H) := ht6.toTb (fun _ _ => trivial) (fun _ _ => trivial)
        have hjoin := join_any hT6 (by rw [HTL.out, HIL.out]; omega) (by rw [HTL.out, HIL.out]; omega) (fun i hi => HTR.out i (by rw [HTL.out, HIL.out] at hi; exact hi))
        have HJ := Lib.hid hjoin
        obtain ⟨ao6, kc6, rfl⟩ := hT6.shape
        clear hjoin hT6 ht6
        go_wp2_with (fail)
        refine HJ.out.mono ?_
        rintro e w7 ⟨r7, rfl, hB7, hb7⟩
        have hd := HD.out
        obtain ⟨fl, hfl⟩ : ∃ fl, (timesM R' H).flatten = fl := ⟨_, rfl⟩
        rw [hfl] at hB7 hd
        have HD2 := Lib.hid hd
        clear hd hfl
        have hbw6 : Below w.heap.size w w6 := (hbw.trans (hb5.mono hbw.size)).trans (hb6.mono (Nat.le_trans hbw.size hb5.size))
        have hbw7 : Below w.heap.size w w7 := hbw6.trans (hb7.mono hbw6.size)
        have hB8 := hB7.mono (T := Fresh w) (fun b _ h => Nat.le_trans hbw6.size h)
        have HB8 := Lib.hid hB8; have HBW := Lib.hid hbw7
        obtain ⟨ao7, kc7, rfl⟩ := hB7.shape
        clear hB7 hB8 hbw7 hb7 hbw6
        go_wp2
        go_ret2
        rw [HD2.out]
        exact ⟨_, rfl, HB8.out, HBW.out⟩
end Go.Proofs.Fl

namespace Go.Proofs.Fl
open Go.RowKit

theorem shardOf_len (m : PM) (id d a : Int) : (shardOf m id d a).length = 0 ∨ (shardOf m id d a).length = 8 := by
  unfold shardOf
  by_cases h : (m.load d id a).2 ≠ 0 ∨ (m.load d id a).1.length ≠ 8
  · rw [if_pos h]; exact .inl rfl
  · rw [if_neg h]; right; omega
theorem gatherK_get (m : PM) (id : Int) (locs : List Int) (n i : Nat) (h : i < n) : (gatherK m id locs n).getD i [] = shardOf m id (locs.getD i 0) i := by
  simp [gatherK, List.getD_eq_getElem?_getD, h]
def readM (k m : Nat) (pm : PM) (id : Int) (locs : List Int) : Bytes × Nat := decM k m (gatherK pm id locs locs.length)

set_option maxHeartbeats 400000 in
set_option maxRecDepth 100000 in
theorem read_any {w0 w : World} {S : Nat → Prop} {pb : Nat} {pm : PM} (k m : Nat) (hk1 : 1 ≤ k) (hk : k ≤ 4) (hm : m ≤ 3) (h : PoolL w0 w pb pm) (hc : pm.calm) (id ep : Int) (lv : Value) (locs : List Int) (hL : Ns w S lv locs) (hn : locs.length = k + m) :
    Calls Try.prog 46 #[.pointer (some ⟨pb, 0, none⟩), .int .i64 k, .int .i64 m, stripeV id ep lv] w fun e w' => ∃ r, e = .returned (.tuple #[r, .int .i64 (readM k m pm id locs).2]) ∧ Bs w' (Fresh w) r (readM k m pm id locs).1 ∧ Below w.heap.size w w' := by
  have hbx : Below w.heap.size w (w.alloc (.cells #[.int .i64 id, .int .i64 ep, lv] 67)) := (Below.refl _ _).alloc (Nat.le_refl _) _
  have hg := gather_any (h.ext hbx) hc id ep lv locs (hL.kept (Mod.of_below (fun _ => False) hbx) (fun _ _ _ h => h)) (by omega)
  obtain ⟨lao, lc, rfl, _⟩ := hL.open_
  have HG := Lib.hid hg
  have hnm : (locs.length : Int) = (k : Int) + (m : Int) := by omega
  have HN := Lib.hid hn
  clear hn
  unfold stripeV at *
  clear hg h hL hc
  go_enter Try.func46, Try.ntmps46
  go_wp2_with (fail)
  refine HG.out.mono ?_
  rintro e w1 ⟨v1, rfl, ht, hb1⟩
  have hT : Tb w1 (fun _ => True) v1 (gatherK pm id locs locs.length) := ht.toTb (fun _ _ => trivial) (fun _ _ => trivial)
  have hd := decode_any k m hk1 hk hm hT (by rw [gatherK_length, HN.out]) (fun i hi => by rw [gatherK_get _ _ _ _ _ (by rw [HN.out]; exact hi)]; exact shardOf_len _ _ _ _)
  have HD := Lib.hid hd
  obtain ⟨ao1, kc1, rfl⟩ := hT.shape
  clear hd hT ht
  go_wp2_with (fail)
  refine HD.out.mono ?_
  rintro e w2 ⟨r, rfl, hB, hb2⟩
  have hbw1 : Below w.heap.size w w1 := hbx.trans (hb1.mono hbx.size)
  have hbw2 : Below w.heap.size w w2 := hbw1.trans (hb2.mono hbw1.size)
  have hB2 := hB.mono (T := Fresh w) (fun b _ h => Nat.le_trans hbw1.size h)
  have hB3 : Bs w2 (Fresh w) r (readM k m pm id locs).1 := hB2
  have he : (decM k m (gatherK pm id locs locs.length)).2 = (readM k m pm id locs).2 := rfl
  rw [he]
  obtain ⟨r1, r2, hrr⟩ : ∃ r1 r2, readM k m pm id locs = (r1, r2) := ⟨_, _, rfl⟩
  rw [hrr] at hB3 ⊢
  have HRR := Lib.hid hrr
  clear hrr
  have HB := Lib.hid hB3; have HBW := Lib.hid hbw2
  obtain ⟨ao2, kc2, rfl⟩ := hB3.shape
  clear hB hB2 hB3 hbw1 hbw2 hb1 hb2 he
  go_wp2
  go_ret2
  rw [HRR.out]
  exact ⟨_, rfl, HB.out, HBW.out⟩

set_option maxHeartbeats 400000 in
set_option maxRecDepth 100000 in
theorem read_bad (pv : Value) (k m : Int) (id ep : Int) (ao : Option Addr) (n c : Nat) (w : World) (hn : ¬ (n : Int) = k + m) (hr : -9223372036854775808 ≤ k + m ∧ k + m ≤ 9223372036854775807) :
    Calls Try.prog 46 #[pv, .int .i64 k, .int .i64 m, stripeV id ep (.slice ao n c)] w fun e w' => e = .returned (.tuple #[.slice none 0 0, .int .i64 1]) ∧ Below w.heap.size w w' := by
  have hbx : Below w.heap.size w (w.alloc (.cells #[.int .i64 id, .int .i64 ep, .slice ao n c] 67)) := (Below.refl _ _).alloc (Nat.le_refl _) _
  unfold stripeV
  go_enter Try.func46, Try.ntmps46
  go_wp2
  go_ret2
  exact ⟨rfl, hbx⟩
end Go.Proofs.Fl

namespace Go.Proofs.Fl
open Go.RowKit

set_option maxHeartbeats 400000 in
set_option maxRecDepth 100000 in
theorem one_bad (pv : Value) (k m : Int) (id ep : Int) (ao : Option Addr) (n c : Nat) (a : Int) (w : World) (hn : ¬ (n : Int) = k + m) (hr : -9223372036854775808 ≤ k + m ∧ k + m ≤ 9223372036854775807) :
    Calls Try.prog 49 #[pv, .int .i64 k, .int .i64 m, stripeV id ep (.slice ao n c), .int .i64 a] w fun e w' => e = .returned (.tuple #[.slice none 0 0, .int .i64 1]) ∧ Below w.heap.size w w' := by
  have hbx : Below w.heap.size w (w.alloc (.cells #[.int .i64 id, .int .i64 ep, .slice ao n c] 67)) := (Below.refl _ _).alloc (Nat.le_refl _) _
  unfold stripeV
  go_enter Try.func49, Try.ntmps49
  go_wp2
  go_ret2
  exact ⟨rfl, hbx⟩
theorem L_lasts2 {w0 w : World} {pb : Nat} {m : PM} (h : PoolL w0 w pb m) (n S K : Int) :
    Calls Try.prog 27 #[.pointer (some ⟨pb, 0, none⟩), .int .i64 n, .int .i64 S, .int .i64 K] w fun e w' => e = .returned (.bool (m.lasts n S K)) ∧ Below w.heap.size w w' := by
  obtain ⟨h1, F, h2, h3⟩ := h
  refine (pool_lasts h3 n S K).mono ?_
  rintro e w' ⟨rfl, hb⟩
  exact ⟨rfl, hb⟩
def wholeM (m : PM) (id : Int) (locs : List Int) : Bool := (List.range locs.length).all fun i => m.lasts (locs.getD i 0) id i

set_option maxHeartbeats 1000000 in
set_option maxRecDepth 100000 in
theorem whole_any {w0 w : World} {S : Nat → Prop} {pb : Nat} {pm : PM} (h : PoolL w0 w pb pm) (id ep : Int) (lv : Value) (locs : List Int) (hL : Ns w S lv locs) (hn : locs.length ≤ 1000) :
    Calls Try.prog 47 #[.pointer (some ⟨pb, 0, none⟩), stripeV id ep lv] w fun e w' => e = .returned (.bool (wholeM pm id locs)) ∧ Below w.heap.size w w' := by
  obtain ⟨lao, lc, rfl, hsh⟩ := hL.open_
  have HSH := Lib.hid hsh; have HP := Lib.hid h
  unfold stripeV
  clear hsh hL h
  go_enter Try.func47, Try.ntmps47
  go_wp2
  obtain ⟨W, hW⟩ : ∃ W, w.alloc (.cells #[.int .i64 id, .int .i64 ep, .slice lao locs.length lc] 67) = W := ⟨_, rfl⟩
  have hbx : Below w.heap.size w W := by rw [← hW]; exact (Below.refl _ _).alloc (Nat.le_refl _) _
  have hid0 : W.cell? ⟨w.heap.size, 0, none⟩ = some (.int .i64 id) := by rw [← hW, World.cell?_alloc_new]; rfl
  have hbl : w.heap.size < W.heap.size := by rw [← hW]; simp
  have hPW := HP.out.ext hbx
  have HPW := Lib.hid hPW
  clear hPW
  rw [hW]
  clear hW
  go_loopw [10] (fun i wr => ∃ k : Nat, k ≤ locs.length ∧ i = .int .i64 k ∧ (∀ j, j < k → pm.lasts (locs.getD j 0) id j = true) ∧ Below W.heap.size W wr)
    (fun i _ => locs.length - (intOf i).toNat)
  case atStart => exact ⟨0, by omega, rfl, fun j hj => absurd hj (Nat.not_lt_zero j), Below.refl _ _⟩
  case round =>
    obtain ⟨k, hkl, rfl, hall, hb⟩ := hrel
    have HA := Lib.hid hall
    clear hall
    have hbz : Below w.heap.size w wr := hbx.trans (hb.mono (Nat.le_of_lt hbl))
    by_cases hlt : k < locs.length
    · obtain ⟨lb, lo, rfl, hlb, hc⟩ := HSH.out (by omega)
      have c0 := (hb.cell (p := ⟨w.heap.size, 0, none⟩) hbl).trans hid0
      have c1 := (hb.cell (p := ⟨lb, lo + k, none⟩) (Nat.lt_of_lt_of_le hlb hbx.size)).trans ((hbx.cell (p := ⟨lb, lo + k, none⟩) hlb).trans (hc k hlt))
      obtain ⟨d, hd⟩ : ∃ d, locs.getD k 0 = d := ⟨_, rfl⟩
      rw [hd] at c1
      have hld := L_lasts2 (HPW.out.ext hb) d id k
      have HLD := Lib.hid hld
      have HDD := Lib.hid hd
      clear hc hld hd
      cases hcase : pm.lasts d id k with
      | true =>
        have HCS := Lib.hid hcase
        clear hcase
        go_wp2_with (fail)
        refine HLD.out.mono ?_
        rintro e w2 ⟨rfl, hb2⟩
        rw [HCS.out]
        have hb3 := hb.trans (hb2.mono hb.size)
        go_wp2
        go_roundw
        case rel => exact ⟨k + 1, by omega, by go_num, fun j hj => by
          by_cases e : j = k
          · subst e; rw [HDD.out]; exact HCS.out
          · exact HA.out j (by omega), hb3⟩
        case measure => simp [intOf]; omega
      | false =>
        have HCS := Lib.hid hcase
        clear hcase
        go_wp2_with (fail)
        refine HLD.out.mono ?_
        rintro e w2 ⟨rfl, hb2⟩
        rw [HCS.out]
        have hb3 := hbz.trans (hb2.mono hbz.size)
        go_wp2
        go_ret
        refine ⟨?_, hb3⟩
        have : wholeM pm id locs = false := by
          unfold wholeM
          rw [List.all_eq_false]
          exact ⟨k, List.mem_range.2 hlt, by rw [HDD.out, HCS.out]; simp⟩
        rw [this]; rfl
    · obtain rfl : k = locs.length := by omega
      go_wp2
      go_ret
      refine ⟨?_, hbz⟩
      have : wholeM pm id locs = true := by
        unfold wholeM
        rw [List.all_eq_true]
        exact fun j hj => HA.out j (List.mem_range.1 hj)
      rw [this]; rfl
end Go.Proofs.Fl

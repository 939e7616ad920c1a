import Derived.Test.YtficmalfoeaibaaXG1
import Derived.Test.YtficmalfoeaibaaXP0toP4
namespace Go.Proofs.Fl
open Go.RowKit

/-- v is a slice of elements of one cell: it reads the values vs. -/
def Sv (w : World) (S : Nat → Prop) (v : Value) (vs : List Value) : Prop :=
  ∃ ao c, v = .slice ao vs.length c ∧ vs.length ≤ c ∧ c ≤ maxLen ∧
    ((ao = none ∧ c = 0) ∨ ∃ b o, ao = some ⟨b, o, none⟩ ∧ S b ∧ b < w.heap.size ∧ ∀ j, j < vs.length → w.cell? ⟨b, o + j, none⟩ = some (vs.getD j undef))
/-- v is a table: it reads the rows. -/
def Tb (w : World) (S : Nat → Prop) (v : Value) (rows : List Bytes) : Prop :=
  ∃ vs, vs.length = rows.length ∧ Sv w S v vs ∧ ∀ i, i < rows.length → Bs w S (vs.getD i undef) (rows.getD i [])

theorem Sv.mono {w : World} {S T : Nat → Prop} {v : Value} {l : List Value} (h : Sv w S v l) (hst : ∀ k, k < w.heap.size → S k → T k) : Sv w T v l := by
  obtain ⟨ao, c, e, h1, h2, h3⟩ := h
  refine ⟨ao, c, e, h1, h2, ?_⟩
  rcases h3 with h3 | ⟨b, o, e1, hs, hb, hc⟩
  · exact .inl h3
  · exact .inr ⟨b, o, e1, hst b hb hs, hb, hc⟩
theorem Sv.kept {w w' : World} {S T : Nat → Prop} {v : Value} {l : List Value} (h : Sv w S v l) (hm : Mod T w w') (hst : ∀ k, k < w.heap.size → S k → ¬ T k) : Sv w' S v l := by
  obtain ⟨ao, c, e, h1, h2, h3⟩ := h
  refine ⟨ao, c, e, h1, h2, ?_⟩
  rcases h3 with h3 | ⟨b, o, e1, hs, hb, hc⟩
  · exact .inl h3
  · exact .inr ⟨b, o, e1, hs, Nat.lt_of_lt_of_le hb hm.size, fun j hj => (hm.cell hb (hst b hb hs)).trans (hc j hj)⟩
theorem Sv.shape {w : World} {S : Nat → Prop} {v : Value} {l : List Value} (h : Sv w S v l) : ∃ ao c, v = .slice ao l.length c := by
  obtain ⟨ao, c, e, _⟩ := h; exact ⟨ao, c, e⟩
theorem Sv.lt {w : World} {S : Nat → Prop} {v : Value} {l : List Value} (h : Sv w S v l) : l.length ≤ maxLen := by
  obtain ⟨ao, c, _, h1, h2, _⟩ := h; omega
theorem Sv.cellAt {w : World} {S : Nat → Prop} {v : Value} {l : List Value} (h : Sv w S v l) (hl : 0 < l.length) : ∃ b o c, v = .slice (some ⟨b, o, none⟩) l.length c ∧ S b ∧ b < w.heap.size ∧ l.length ≤ c ∧ ∀ j, j < l.length → w.cell? ⟨b, o + j, none⟩ = some (l.getD j undef) := by
  obtain ⟨ao, c, rfl, h1, h2, h3⟩ := h
  rcases h3 with ⟨rfl, rfl⟩ | ⟨b, o, rfl, hs, hb, hc⟩
  · omega
  · exact ⟨b, o, c, rfl, hs, hb, h1, hc⟩
theorem Sv.of_own {w : World} {base : Nat} {v : Value} {n : Nat} {xs : List Value} {e : TypeId} (h : w.ownsRow base e 1 v n xs) (S : Nat → Prop) (hS : ∀ g, v.ownBlock = some g → S g) : Sv w S v xs := by
  have hl : xs.length = n := by have := h.1; simpa using this
  subst hl
  rcases h.2 with ⟨rfl, h0⟩ | ⟨g, cap, cur, rfl, hbg, hg, hnc, hcm, hcs, htake⟩
  · exact ⟨none, 0, by rw [h0], by omega, by simp [maxLen], .inl ⟨rfl, rfl⟩⟩
  · have hlt := (Array.getElem?_eq_some_iff.1 hg).1
    refine ⟨_, cap, rfl, hnc, hcm, .inr ⟨g, 0, rfl, hS g rfl, hlt, fun j hj => ?_⟩⟩
    have := h.cells (g := g) rfl j (xs.getD j undef) (by simp [List.getElem?_eq_getElem hj, List.getD_eq_getElem?_getD])
    have ha : (⟨g, 0, none⟩ : Addr).add j = ⟨g, 0 + j, none⟩ := by unfold Addr.add; split <;> simp_all
    rwa [ha] at this
theorem Tb.mono {w : World} {S T : Nat → Prop} {v : Value} {l : List Bytes} (h : Tb w S v l) (hst : ∀ k, k < w.heap.size → S k → T k) : Tb w T v l := by
  obtain ⟨vs, e, h1, h2⟩ := h
  exact ⟨vs, e, h1.mono hst, fun i hi => (h2 i hi).mono hst⟩
theorem Tb.kept {w w' : World} {S T : Nat → Prop} {v : Value} {l : List Bytes} (h : Tb w S v l) (hm : Mod T w w') (hst : ∀ k, k < w.heap.size → S k → ¬ T k) : Tb w' S v l := by
  obtain ⟨vs, e, h1, h2⟩ := h
  exact ⟨vs, e, h1.kept hm hst, fun i hi => (h2 i hi).kept hm hst⟩
theorem Tb.below {w w' : World} {S : Nat → Prop} {v : Value} {l : List Bytes} (h : Tb w S v l) (hb : Below w.heap.size w w') : Tb w' S v l :=
  h.kept (Mod.of_below (fun _ => False) hb) (fun _ _ _ => id)
theorem Tb.drewN {w : World} {S : Nat → Prop} {v : Value} {l : List Bytes} (h : Tb w S v l) (n : Nat) : Tb (w.drewN n) S v l := by
  obtain ⟨vs, e, h1, h2⟩ := h
  exact ⟨vs, e, h1, fun i hi => (h2 i hi).drewN n⟩
theorem Tb.shape {w : World} {S : Nat → Prop} {v : Value} {l : List Bytes} (h : Tb w S v l) : ∃ ao c, v = .slice ao l.length c := by
  obtain ⟨vs, e, h1, h2⟩ := h
  rw [← e]; exact h1.shape
theorem Tb.lt {w : World} {S : Nat → Prop} {v : Value} {l : List Bytes} (h : Tb w S v l) : l.length ≤ maxLen := by
  obtain ⟨vs, e, h1, h2⟩ := h
  rw [← e]; exact h1.lt
/-- The block that has the table's elements, and each element's row. -/
theorem Tb.cellAt {w : World} {S : Nat → Prop} {v : Value} {l : List Bytes} (h : Tb w S v l) (hl : 0 < l.length) : ∃ b o c, v = .slice (some ⟨b, o, none⟩) l.length c ∧ S b ∧ b < w.heap.size ∧ l.length ≤ c ∧
    ∀ j, j < l.length → ∃ ao k, w.cell? ⟨b, o + j, none⟩ = some (.slice ao (l.getD j []).length k) ∧ Bs w S (.slice ao (l.getD j []).length k) (l.getD j []) := by
  obtain ⟨vs, e, h1, h2⟩ := h
  obtain ⟨b, o, c, rfl, hs, hb, hc0, hc⟩ := h1.cellAt (by omega)
  refine ⟨b, o, c, by rw [e], hs, hb, by omega, fun j hj => ?_⟩
  have hB := h2 j hj
  have hcj := hc j (by omega)
  obtain ⟨ao, k, ej⟩ := hB.shape
  rw [ej] at hB hcj
  exact ⟨ao, k, hcj, hB⟩
theorem Tb.of_own {w : World} {base : Nat} {v : Value} {n : Nat} {vs : List Value} {rows : List Bytes} (S : Nat → Prop) (h : w.ownsRow base tBytes 1 v n vs) (hS : ∀ g, v.ownBlock = some g → S g) (hn : rows.length = n)
    (hr : ∀ i, i < n → Bs w S (vs.getD i undef) (rows.getD i [])) : Tb w S v rows := by
  have hl : vs.length = n := by have := h.1; simpa using this
  exact ⟨vs, by omega, Sv.of_own h S hS, fun i hi => hr i (by omega)⟩

/-! ### where the first row is of which a function says yes -/
def idxF (p : Nat → Bool) (n : Nat) : Option Nat := firstIn p n

set_option maxHeartbeats 800000 in
set_option maxRecDepth 100000 in
theorem index_any (fn : Nat) (caps : Array Value) (p : Nat → Bool) (S : Nat → Prop) (v : Value) (vs : List Value) (w : World) (hv : Sv w S v vs) (hn : vs.length ≤ 1000000)
    (hcf : ∀ args (w : World), Sem.run Try.prog (callFunc fn args) w = .ok (.enter fn args) w) (hf : ∀ i, i < vs.length → Calls Try.prog fn (#[vs.getD i undef] ++ caps) w fun e w' => e = .returned (.bool (p i)) ∧ w = w') :
    Calls Try.prog 113 #[v, .func (.func fn) #[] caps] w fun e w' => e = .returned (.int .i64 (idxV (firstIn p vs.length))) ∧ w = w' := by
  by_cases h0 : vs.length = 0
  · obtain ⟨ao, c, rfl⟩ := hv.shape
    have e0 : firstIn p 0 = none := rfl
    rw [h0]
    clear hv hf hcf
    go_enter Try.func113, Try.ntmps113
    go_wp2
    go_loop [8] (fun i => i = .int .i64 0) (fun _ => 0)
    case atStart => rfl
    case round =>
      obtain rfl := hrel
      go_wp2
      go_ret
      exact ⟨rfl, rfl⟩
  · obtain ⟨b, o, c, rfl, hs, hbw, hc0, hcell⟩ := hv.cellAt (by omega)
    have HC := Lib.hid hcell; have HF := Lib.hid hf
    have HE := Lib.hid hcf
    clear hcell hf hv hcf
    go_enter Try.func113, Try.ntmps113
    go_wp2
    go_loop [8] (fun i => ∃ k : Nat, k ≤ vs.length ∧ i = .int .i64 k ∧ (∀ j, j < k → p j = false)) (fun i => vs.length - (intOf i).toNat)
    case atStart => exact ⟨0, by omega, rfl, by omega⟩
    case round =>
      obtain ⟨k, hk, rfl, hq⟩ := hrel
      have HQ := Lib.hid hq; clear hq
      by_cases hlt : k < vs.length
      · have c1 := HC.out k hlt
        have f1 := Lib.hid (HF.out k hlt)
        generalize hvk : vs.getD k undef = vk at *
        clear hvk
        have hkr : (k : Int) < (vs.length : Int) := by omega
        cases hp : p k with
        | true =>
          have HP := Lib.hid hp; clear hp
          go_wp2_with (fail)
          rw [HE.out, Oper.upon_enter]
          refine (f1.out).mono ?_
          rintro e w1 ⟨rfl, rfl⟩
          rw [HP.out]
          go_wp2
          go_ret
          exact ⟨ret_i64 (by rw [firstIn_some hlt HP.out HQ.out]; rfl), rfl⟩
        | false =>
          have HP := Lib.hid hp; clear hp
          go_wp2_with (fail)
          rw [HE.out, Oper.upon_enter]
          refine (f1.out).mono ?_
          rintro e w1 ⟨rfl, rfl⟩
          rw [HP.out]
          go_wp2
          go_round
          case rel => exact ⟨k + 1, by omega, by go_num, fun j hj => by
            by_cases e : j = k
            · subst e; exact HP.out
            · exact HQ.out j (by omega)⟩
          case measure => simp [intOf]; omega
      · obtain rfl : k = vs.length := by omega
        go_wp2
        go_ret
        exact ⟨ret_i64 (by rw [firstIn_none HQ.out]; rfl), rfl⟩
end Go.Proofs.Fl

namespace Go.Proofs.Fl
open Go.RowKit

set_option maxHeartbeats 800000 in
theorem contains_any (fn : Nat) (caps : Array Value) (p : Nat → Bool) (S : Nat → Prop) (v : Value) (vs : List Value) (w : World) (hv : Sv w S v vs) (hn : vs.length ≤ 1000000)
    (hcf : ∀ args (w : World), Sem.run Try.prog (callFunc fn args) w = .ok (.enter fn args) w) (hf : ∀ i, i < vs.length → Calls Try.prog fn (#[vs.getD i undef] ++ caps) w fun e w' => e = .returned (.bool (p i)) ∧ w = w') :
    Calls Try.prog 87 #[v, .func (.func fn) #[] caps] w fun e w' => e = .returned (.bool (decide (0 ≤ idxV (firstIn p vs.length)))) ∧ w = w' := by
  have hc := index_any fn caps p S v vs w hv hn hcf hf
  clear hcf hf hv
  go_enter Try.func87, Try.ntmps87
  go_wp2_with (fail)
  refine hc.mono ?_
  rintro e w1 ⟨rfl, rfl⟩
  go_wp2
  go_ret
  exact ⟨rfl, rfl⟩
theorem idxV_none : idxV none = -1 := rfl

theorem fit_fn (n c x b o m k : Nat) (bo : Option Addr) (w : World) (hx : w.cell? ⟨x, 0, none⟩ = some (.slice (some ⟨b, o, none⟩) m k)) (hm : 0 < m) (h0 : w.cell? ⟨b, o, none⟩ = some (.slice bo n c))  (co : Option Addr) (cc : Nat) :
    Calls Try.prog 126 (#[.slice co n cc] ++ #[.pointer (some ⟨x, 0, none⟩)]) w fun e w' => e = .returned (.bool false) ∧ w = w' := by
  show Calls Try.prog 126 #[.slice co n cc, .pointer (some ⟨x, 0, none⟩)] w _
  have hm' : (0 : Int) < (m : Int) := by omega
  go_enter Try.func126, Try.ntmps126
  go_wp2
  go_ret
  exact ⟨rfl, rfl⟩

set_option maxHeartbeats 800000 in
set_option maxRecDepth 100000 in
theorem fit_any {S : Nat → Prop} {v : Value} {rows : List Bytes} {w : World} (h : Tb w S v rows) (hn : rows.length ≤ 1000000) (c : Nat) (h0 : 0 < rows.length) (hc : ∀ i, i < rows.length → (rows.getD i []).length = c) :
    Calls Try.prog 114 #[v] w fun e w' => e = .returned (.bool true) ∧ Below w.heap.size w w' := by
  obtain ⟨b, o, k, rfl, hs, hbw, hk, hcell⟩ := h.cellAt h0
  obtain ⟨ao0, c0, x0, hB0⟩ := hcell 0 h0
  rw [hc 0 h0] at x0
  have hbel : Below w.heap.size w (w.alloc (.cells #[.slice (some ⟨b, o, none⟩) rows.length k] 59)) := (Below.refl _ _).alloc (Nat.le_refl _) _
  obtain ⟨vs, e, h1, h2⟩ := h.below hbel
  have hcon := contains_any 126 #[.pointer (some ⟨w.heap.size, 0, none⟩)] (fun _ => false) S _ vs (w.alloc (.cells #[.slice (some ⟨b, o, none⟩) rows.length k] 59)) h1 (by omega) (fun _ _ => rfl) (fun i hi => by
    obtain ⟨ao, c2, e2⟩ := (h2 i (by omega)).shape
    rw [hc i (by omega)] at e2
    rw [e2]
    exact fit_fn c c0 w.heap.size b o rows.length k ao0 _ (by rw [World.cell?_alloc_new]; rfl) h0 ((hbel.cell (p := ⟨b, o, none⟩) hbw).trans (by simpa using x0)) _ _)
  rw [firstIn_none (fun _ _ => rfl)] at hcon
  have HC := Lib.hid hcon
  clear hcon h hcell hB0 h1 h2 x0 hc
  have hlt : (0 : Int) < (rows.length : Int) := by omega
  go_enter Try.func114, Try.ntmps114
  go_wp2_with (fail)
  refine HC.out.mono ?_
  rintro e w1 ⟨rfl, rfl⟩
  go_wp2
  go_ret
  exact ⟨rfl, hbel⟩
end Go.Proofs.Fl

namespace Go.Proofs.Fl
open Go.RowKit

/-! ### a table that is laid row by row -/
def TabO (w : World) (base : Nat) (S : Nat → Prop) (v : Value) (rows : List Bytes) : Prop :=
  ∃ vs, w.ownsRow base tBytes 1 v rows.length vs ∧ ∀ i, i < rows.length → Bs w (fun b => S b ∧ v.ownBlock ≠ some b) (vs.getD i undef) (rows.getD i [])
theorem TabO.nil (w : World) (base : Nat) (S : Nat → Prop) : TabO w base S (.slice none 0 0) [] := ⟨[], World.ownsRow_nil w base _ 1, fun i hi => absurd hi (Nat.not_lt_zero i)⟩
theorem TabO.below {w w' : World} {base : Nat} {S : Nat → Prop} {v : Value} {rows : List Bytes} (h : TabO w base S v rows) (hb : Below w.heap.size w w') : TabO w' base S v rows := by
  obtain ⟨vs, h1, h2⟩ := h
  exact ⟨vs, own_below h1 hb, fun i hi => (h2 i hi).below hb⟩
theorem TabO.shape {w : World} {base : Nat} {S : Nat → Prop} {v : Value} {rows : List Bytes} (h : TabO w base S v rows) : ∃ ao c, v = .slice ao rows.length c := by
  obtain ⟨vs, h1, h2⟩ := h
  obtain ⟨a, b, c, rfl⟩ := own_shape h1
  obtain rfl := own_len h1
  exact ⟨_, _, rfl⟩
theorem TabO.toTb {w : World} {base : Nat} {S T : Nat → Prop} {v : Value} {rows : List Bytes} (h : TabO w base S v rows) (hT : ∀ b, base ≤ b → T b) (hS : ∀ b, S b → T b) : Tb w T v rows := by
  obtain ⟨vs, h1, h2⟩ := h
  exact Tb.of_own T h1 (fun g hg => hT g (h1.lt g hg).1) rfl (fun i hi => (h2 i hi).mono fun k _ hk => hS k hk.1)
theorem getD_snoc_lt {α : Type} (l : List α) (x z : α) (i : Nat) (h : i < l.length) : (l ++ [x]).getD i z = l.getD i z := by
  simp [List.getD_eq_getElem?_getD, List.getElem?_append_left h]
theorem getD_snoc_eq {α : Type} (l : List α) (x z : α) : (l ++ [x]).getD l.length z = x := by
  simp [List.getD_eq_getElem?_getD]
theorem TabO.snoc {w w' : World} {base : Nat} {S : Nat → Prop} {v v' x : Value} {rows : List Bytes} {row : Bytes} {vs : List Value}
    (h1 : w.ownsRow base tBytes 1 v rows.length vs) (h2 : ∀ i, i < rows.length → Bs w (fun b => S b ∧ v.ownBlock ≠ some b) (vs.getD i undef) (rows.getD i []))
    (hx : Bs w (fun b => S b ∧ v.ownBlock ≠ some b) x row) (ho : w'.ownsRow base tBytes 1 v' (rows.length + 1) (vs ++ [x])) (hg : Grew w v w' v') : TabO w' base S v' (rows ++ [row]) := by
  have hl : vs.length = rows.length := by have := h1.1; simpa using this
  have keep : ∀ (y : Value) (r : Bytes), Bs w (fun b => S b ∧ v.ownBlock ≠ some b) y r → Bs w' (fun b => S b ∧ v'.ownBlock ≠ some b) y r := by
    intro y r hy
    have hm : Mod (fun b => v.ownBlock = some b) w w' := (Mod.refl _ w).grown hg.by_ (fun k hk _ => hk)
    refine (hy.mono (T := fun b => (S b ∧ v.ownBlock ≠ some b) ∧ v'.ownBlock ≠ some b) (fun k hk h => ⟨h, ?_⟩)).kept hm (fun k _ h => h.1.2) |>.mono (fun k _ h => ⟨h.1.1, h.2⟩)
    intro e
    rcases hg.blk with q | ⟨g', q, q'⟩
    · exact h.2 (q ▸ e)
    · rw [q] at e; injection e with e; omega
  refine ⟨vs ++ [x], by simpa using ho, fun i hi => ?_⟩
  rw [List.length_append, List.length_singleton] at hi
  by_cases hlt : i < rows.length
  · rw [getD_snoc_lt _ _ _ _ (by omega), getD_snoc_lt _ _ _ _ hlt]
    exact keep _ _ (h2 i hlt)
  · obtain rfl : i = rows.length := by omega
    rw [getD_snoc_eq]
    rw [← hl, getD_snoc_eq]
    exact keep _ _ hx

/-! ### the product of two tables -/
def sumK (r : Bytes) (rb : List Bytes) (c : Nat) : Nat → Bytes
  | 0 => List.replicate c 0
  | k + 1 => addS (sumK r rb c k) (rb.getD k []) (r.getD k 0)
@[simp] theorem sumK_length (r : Bytes) (rb : List Bytes) (c k : Nat) : (sumK r rb c k).length = c := by induction k <;> simp_all [sumK]
def timesM (ra rb : List Bytes) : List Bytes := ra.map fun r => sumK r rb (rb.getD 0 []).length r.length
def timesK (ra rb : List Bytes) (k : Nat) : List Bytes := (List.range k).map fun i => sumK (ra.getD i []) rb (rb.getD 0 []).length rb.length
theorem timesK_succ (ra rb : List Bytes) (k : Nat) : timesK ra rb (k + 1) = timesK ra rb k ++ [sumK (ra.getD k []) rb (rb.getD 0 []).length rb.length] := by simp [timesK, List.range_succ]
theorem timesK_length (ra rb : List Bytes) (k : Nat) : (timesK ra rb k).length = k := by simp [timesK]
theorem timesK_all (ra rb : List Bytes) (h : ∀ i, i < ra.length → (ra.getD i []).length = rb.length) : timesK ra rb ra.length = timesM ra rb := by
  apply List.ext_getElem
  · simp [timesM, timesK_length]
  · intro i h1 h2
    have hi : i < ra.length := by simpa [timesK_length] using h1
    have := h i hi
    simp only [List.getD_eq_getElem?_getD, List.getElem?_eq_getElem hi, Option.getD_some] at this
    simp [timesK, timesM, List.getElem?_eq_getElem hi, this]
theorem u8s_zeros (c : Nat) : List.replicate c (Value.int IntKind.u8 0) = u8s (List.replicate c 0) := by simp [u8s, u8v]

theorem own_some {b n c g : Nat} (h : (Value.slice (some ⟨b, 0, none⟩) n c).ownBlock = some g) : b = g := by injection h
/-- The tables fit. -/
structure Fits (ra rb : List Bytes) (c : Nat) : Prop where
  a0 : 0 < ra.length
  an : ra.length ≤ 1000
  b0 : 0 < rb.length
  bn : rb.length ≤ 1000
  cn : c ≤ 1000
  ca : ∀ i, i < ra.length → (ra.getD i []).length = rb.length
  cb : ∀ i, i < rb.length → (rb.getD i []).length = c

set_option maxHeartbeats 2000000 in
set_option maxRecDepth 100000 in
theorem times_any {S T : Nat → Prop} {va vb : Value} {ra rb : List Bytes} {w : World} (hA : Tb w S va ra) (hB : Tb w T vb rb) (c : Nat) (hF : Fits ra rb c) :
    Calls Try.prog 89 #[va, vb] w fun e w' => ∃ v, e = .returned (.tuple #[v, .int .i64 0]) ∧ TabO w' w.heap.size (Fresh w) v (timesM ra rb) ∧ Below w.heap.size w w' := by
  have hfa := fit_any hA (by have := hF.an; omega) rb.length hF.a0 hF.ca
  obtain ⟨ba, oa, ka, rfl, sa, bwa, hka, cella⟩ := hA.cellAt hF.a0
  obtain ⟨bb, ob, kb, rfl, sb, bwb, hkb, cellb⟩ := hB.cellAt hF.b0
  obtain ⟨ao0, c0, x0, hA0⟩ := cella 0 hF.a0
  rw [hF.ca 0 hF.a0] at x0
  obtain ⟨bo0, d0, y0, hB0⟩ := cellb 0 hF.b0
  rw [hF.cb 0 hF.b0] at y0
  have e00 : (rb.getD 0 []).length = c := hF.cb 0 hF.b0
  have hbn1 := hF.bn; have han1 := hF.an
  have ea := timesK_all ra rb hF.ca
  have hra : (0 : Int) < (ra.length : Int) := by have := hF.a0; omega
  have hrb : (0 : Int) < (rb.length : Int) := by have := hF.b0; omega
  obtain ⟨i0, hi, hz0, hz1, hz2⟩ := info_parts E28.info
  have HI := Lib.hid hi; have HZ0 := Lib.hid hz0; have HZ1 := Lib.hid hz1; have HZ2 := Lib.hid hz2
  have HCA := Lib.hid cella; have HCB := Lib.hid cellb; have HFI := Lib.hid hF; have HEA := Lib.hid ea; have HE0 := Lib.hid e00
  clear hi hz0 hz1 hz2 cella cellb hF ea hA0 hB0 e00
  have HB' := Lib.hid hB
  have x0' := x0; have y0' := y0
  rw [Nat.add_zero] at x0 y0
  clear hA hB x0' y0'
  go_enter Try.func89, Try.ntmps89
  go_wp2_with (fail)
  refine hfa.mono ?_
  rintro e w1 ⟨rfl, hb1⟩
  go_wp2_with (fail)
  have hfb := fit_any (HB'.out.below hb1) (by have := HFI.out.bn; omega) c HFI.out.b0 HFI.out.cb
  refine hfb.mono ?_
  rintro e w2 ⟨rfl, hb2⟩
  have hb := hb1.trans (hb2.mono hb1.size)
  have x1 := (hb.cell (p := ⟨ba, oa, none⟩) bwa).trans x0
  have y1 := (hb.cell (p := ⟨bb, ob, none⟩) bwb).trans y0
  clear hfa hfb hb1 hb2
  go_wp2
  clear x1 x0
  go_loopw [6, 31] (fun v i wr => ∃ k : Nat, k ≤ ra.length ∧ i = .int .i64 k ∧ TabO wr w.heap.size (Fresh w) v (timesK ra rb k) ∧ Below w.heap.size w wr)
    (fun _ i _ => ra.length - (intOf i).toNat)
  case atStart => exact ⟨0, by omega, rfl, TabO.nil _ _ _, hb⟩
  case round =>
    obtain ⟨k, hk, rfl, ht, hbr⟩ := hrel
    clear y1 hb
    obtain ⟨wa, hwa⟩ : ∃ wa, wa = wr := ⟨_, rfl⟩
    subst hwa
    by_cases hlt : k < ra.length
    · obtain ⟨ak, ck, ca1, hAk⟩ := HCA.out k hlt
      rw [HFI.out.ca k hlt] at ca1 hAk
      have ca2 := (hbr.cell (p := ⟨ba, oa + k, none⟩) bwa).trans ca1
      have cb2 := (hbr.cell (p := ⟨bb, ob, none⟩) bwb).trans y0
      have hc1000 := HFI.out.cn
      have HT := Lib.hid ht; have HAK := Lib.hid hAk; have HCK := Lib.hid (HFI.out.ca k hlt)
      obtain ⟨tao, tc, rfl⟩ := ht.shape
      clear ht hAk ca1
      go_wp2_with (at_make; refine wpList_make_full _ rfl _ _ _ rfl wa.heap.size _ i0 _ 1 Try.underlying28 HI.out HZ0.out HZ1.out .i64 .i64 _ _ c rfl rfl rfl rfl (by rw [HZ2.out]; omega) (by unfold maxLen; omega) (Nat.le_refl _) ?_)
      intro w3 hown hg3
      have hb3 : Below wa.heap.size wa w3 := (Below.refl _ _).grown hg3 (Nat.le_refl _) (fun k h => by cases h)
      rw [toList_madeCells_one, u8s_zeros] at hown
      clear ca2 cb2
      go_wp2
      go_loopw [42] (fun i wr => ∃ j : Nat, j ≤ rb.length ∧ i = .int .i64 j ∧ wr.ownsRow wa.heap.size tU8 1 (.slice (some ⟨wa.heap.size, 0, none⟩) c c) c (u8s (sumK (ra.getD k []) rb c j)) ∧ Below wa.heap.size wa wr)
        (fun i _ => rb.length - (intOf i).toNat)
      case atStart => exact ⟨0, by omega, rfl, hown, hb3⟩
      case round =>
        obtain ⟨j, hj, rfl, ho, hbq⟩ := hrel
        clear hb3 hown hg3
        have hbw : Below w.heap.size w wr := hbr.trans (hbq.mono hbr.size)
        by_cases hltj : j < rb.length
        · obtain ⟨b1, o1, c1, e1, s1, bw1, cell1⟩ := HAK.out.cellAt (by rw [HCK.out]; omega)
          rw [HCK.out] at e1 cell1
          injection e1 with e1 _ e2
          subst e1; subst e2
          have ca3 := (hbw.cell (p := ⟨b1, o1 + j, none⟩) bw1).trans (cell1 j hltj)
          obtain ⟨bo, bc, cb1, hBj⟩ := HCB.out j hltj
          have cb3 := (hbw.cell (p := ⟨bb, ob + j, none⟩) bwb).trans cb1
          rw [HFI.out.cb j hltj] at cb3
          have es : sumK (ra.getD k []) rb c (j + 1) = addS (sumK (ra.getD k []) rb c j) (rb.getD j []) ((ra.getD k []).getD j 0) := rfl
          have hcb := HFI.out.cb j hltj
          rw [hcb] at hBj
          have hBq := hBj.mono (T := fun b => b < w.heap.size) (fun k hk _ => hk)
          have hadd := add_any wa.heap.size (.slice (some ⟨wa.heap.size, 0, none⟩) c c) _ (sumK (ra.getD k []) rb c j) (rb.getD j []) ((ra.getD k []).getD j 0) _ wr (by simpa using ho) (hBq.below hbw)
            (by intro g hg; have e := own_some hg; have := hbr.size; show ¬ g < w.heap.size; omega) (by rw [sumK_length, hcb]; omega) (by rw [sumK_length]; omega)
          rw [← es] at hadd
          clear cell1 cb1 hBj hBq ho es
          generalize (ra.getD k []).getD j 0 = xj at *
          go_wp2_with (fail)
          refine hadd.mono ?_
          rintro e w4 ⟨rfl, ho4, hg4⟩
          rw [sumK_length] at ho4
          clear hadd ca3 cb3 hbw
          go_wp2
          go_roundw
          case rel => exact ⟨j + 1, by omega, by go_num, ho4, hbq.grown hg4 hbq.size (fun g hg => by have e := own_some hg; omega)⟩
          case measure => simp [intOf]; omega
        · obtain rfl : j = rb.length := by omega
          obtain ⟨vs, q1, q2⟩ := HT.out.below hbq
          have hbs : Bs wr (fun b => Fresh w b ∧ (Value.slice tao (timesK ra rb k).length tc).ownBlock ≠ some b) (.slice (some ⟨wa.heap.size, 0, none⟩) c c) (sumK (ra.getD k []) rb c rb.length) := by
            obtain ⟨vs0, p1, _⟩ := HT.out
            have ho' : wr.ownsRow wa.heap.size tU8 1 (.slice (some ⟨wa.heap.size, 0, none⟩) c c) c (u8s (sumK (ra.getD k []) rb c rb.length)) := ho
            exact Bs.of_own ho' _ (fun b h1 _ => ⟨Nat.le_trans hbr.size h1, fun e => by have := (p1.lt b e).2; omega⟩)
          have hbw : Below w.heap.size w wr := hbr.trans (hbq.mono hbr.size)
          have Q1 := Lib.hid q1; have Q2 := Lib.hid q2; have HBS := Lib.hid hbs
          clear hbs q1 q2 ho
          go_wp2_with (at_builtin; refine wpList_app_new rfl _ _ _ rfl E59 w.heap.size _ 1 Q1.out rfl rfl rfl (by intro u hu; simp at hu; subst hu; rfl) (by rw [timesK_length]; omega) (by decide) hbw.size ?_)
          intro v' w5 hown5 hg5 _
          have ht5 := TabO.snoc Q1.out Q2.out HBS.out hown5 hg5
          have e5 := timesK_succ ra rb k
          rw [HE0.out] at e5
          rw [← e5] at ht5
          have hb5 := Grew.new hbw hbw.size hg5 (fun g hg => (Q1.out.lt g hg).1)
          obtain ⟨tao5, tc5, rfl⟩ := ht5.shape
          have HT5 := Lib.hid ht5; have HB5 := Lib.hid hb5
          clear ht5 hb5 hg5 hown5 hbw hbq e5
          go_wp2
          go_roundw
          case rel => exact ⟨k + 1, by omega, by go_num, HT5.out, HB5.out⟩
          case measure => simp [intOf]; omega
    · obtain rfl : k = ra.length := by omega
      have hT := ht
      rw [HEA.out] at hT
      have HT := Lib.hid hT
      obtain ⟨tao, tc, rfl⟩ := ht.shape
      clear ht hT
      go_wp2
      go_ret2
      exact ⟨_, rfl, HT.out, hbr⟩
end Go.Proofs.Fl

import Derived.Test.YtficmalfoeaibaaXM0toM1
namespace Go.Proofs.Fl
def unitB (rows : List Bytes) : Bool := (List.range rows.length).all fun i => (List.range rows.length).all fun l =>
  xsum (fun a => gmul (((invM rows).getD i []).getD a 0) ((rows.getD a []).getD l 0)) rows.length == if i = l then 1 else 0
/-! Whichever k of the rows are taken, all at once for the widest code: the rows of a narrower one are the first of it. -/
def allBits : Nat → (List Bool → Bool) → Bool
  | 0, f => f []
  | n + 1, f => allBits n (fun l => f (false :: l)) && allBits n (fun l => f (true :: l))
theorem allBits_at : ∀ (n : Nat) (f : List Bool → Bool), allBits n f = true → ∀ l, l.length = n → f l = true := by
  intro n
  induction n with
  | zero => intro f h l hl; rw [List.length_eq_zero_iff.1 hl]; exact h
  | succ n ih =>
    intro f h l hl
    cases l with
    | nil => cases hl
    | cons b l =>
      have h' := Bool.and_eq_true_iff.1 h
      have hl' : l.length = n := by simpa using hl
      cases b
      · exact ih _ h'.1 l hl'
      · exact ih _ h'.2 l hl'
def chosenL (l : List Bool) (n : Nat) : List Nat := (List.range n).filter fun i => l.getD i false
def unitL (k : Nat) (l : List Bool) : Bool := if (chosenL l (k + 3)).length = k then unitB ((chosenL l (k + 3)).map (rowC k)) else true
set_option maxRecDepth 100000 in
theorem unit1 : allBits 4 (unitL 1) = true := by decide +kernel
set_option maxRecDepth 100000 in
theorem unit2 : allBits 5 (unitL 2) = true := by decide +kernel
set_option maxRecDepth 100000 in
theorem unit3 : allBits 6 (unitL 3) = true := by decide +kernel
set_option maxRecDepth 100000 in
theorem unit4a : allBits 5 (fun l => unitL 4 (false :: false :: l)) = true := by decide +kernel
set_option maxRecDepth 100000 in
theorem unit4b : allBits 5 (fun l => unitL 4 (false :: true :: l)) = true := by decide +kernel
set_option maxRecDepth 100000 in
theorem unit4c : allBits 5 (fun l => unitL 4 (true :: false :: l)) = true := by decide +kernel
set_option maxRecDepth 100000 in
theorem unit4d : allBits 5 (fun l => unitL 4 (true :: true :: l)) = true := by decide +kernel
theorem unit4 : allBits 7 (unitL 4) = true := by
  show ((allBits 5 _ && allBits 5 _) && (allBits 5 _ && allBits 5 _)) = true
  rw [show allBits 5 (fun l => unitL 4 (false :: false :: l)) = true from unit4a, show allBits 5 (fun l => unitL 4 (false :: true :: l)) = true from unit4b, show allBits 5 (fun l => unitL 4 (true :: false :: l)) = true from unit4c, show allBits 5 (fun l => unitL 4 (true :: true :: l)) = true from unit4d]
  rfl
theorem unit_all (k : Nat) (hk1 : 1 ≤ k) (hk : k ≤ 4) : allBits (k + 3) (unitL k) = true := by
  have : k = 1 ∨ k = 2 ∨ k = 3 ∨ k = 4 := by omega
  rcases this with rfl | rfl | rfl | rfl
  · exact unit1
  · exact unit2
  · exact unit3
  · exact unit4
end Go.Proofs.Fl

namespace Go.Proofs.Fl
theorem picks_unit (sh : List Bytes) (k m : Nat) (hk1 : 1 ≤ k) (hk : k ≤ 4) (hm : m ≤ 3) (hl : (selB sh k (k + m)).length = k) : unitB ((selB sh k (k + m)).map (rowC k)) = true := by
  obtain ⟨p, hp⟩ : ∃ p : Nat → Bool, (fun i => decide ((sh.getD i []).length ≠ 0 ∧ (selB sh k i).length < k)) = p := ⟨_, rfl⟩
  obtain ⟨l, hl0⟩ : ∃ l : List Bool, (List.range (k + 3)).map (fun i => decide (i < k + m) && p i) = l := ⟨_, rfl⟩
  have hll : l.length = k + 3 := by rw [← hl0]; simp
  have hlg : ∀ i, i < k + 3 → l.getD i false = (decide (i < k + m) && p i) := by
    intro i hi
    rw [← hl0]
    simp [List.getD_eq_getElem?_getD, hi]
  have es : selB sh k (k + m) = chosenL l (k + 3) := by
    rw [selB_filter, hp]
    unfold chosenL
    have hr : List.range (k + 3) = List.range (k + m) ++ (List.range (3 - m)).map (fun i => k + m + i) := by
      apply List.ext_getElem
      · simp; omega
      · intro i h1 h2
        rw [List.getElem_range, List.getElem_append]
        split
        · rw [List.getElem_range]
        · rename_i h
          simp at h ⊢
          omega
    rw [hr, List.filter_append]
    rw [List.filter_congr (q := fun i => l.getD i false) (l := List.range (k + m)) (fun i hi => by
      have := List.mem_range.1 hi
      rw [hlg i (by omega)]; simp [this])]
    have hz : ((List.range (3 - m)).map (fun i => k + m + i)).filter (fun i => l.getD i false) = [] := List.filter_eq_nil_iff.2 fun i hi => by
      obtain ⟨a, ha, rfl⟩ := List.mem_map.1 hi
      have := List.mem_range.1 ha
      rw [hlg _ (by omega)]
      rw [decide_eq_false (show ¬ k + m + a < k + m by omega)]; simp
    rw [hz, List.append_nil]
  have h := allBits_at _ _ (unit_all k hk1 hk) l hll
  unfold unitL at h
  rw [← es, if_pos hl] at h
  exact h
theorem unit_at {rows : List Bytes} (h : unitB rows = true) (i l : Nat) (hi : i < rows.length) (hl : l < rows.length) :
    xsum (fun a => gmul (((invM rows).getD i []).getD a 0) ((rows.getD a []).getD l 0)) rows.length = if i = l then 1 else 0 := by
  have := (List.all_eq_true.1 ((List.all_eq_true.1 h) i (List.mem_range.2 hi))) l (List.mem_range.2 hl)
  exact eq_of_beq this
theorem flatten_chunk (d : Bytes) (k : Nat) (h : 8 * k ≤ d.length) : (chunkK d k).flatten = d.take (8 * k) := by
  induction k with
  | zero => simp [chunkK]
  | succ k ih =>
    rw [chunkK_succ, List.flatten_append, ih (by omega), List.flatten_singleton]
    have : d.take (8 * (k + 1)) = d.take (8 * k) ++ (d.drop (8 * k)).take 8 := by
      rw [show 8 * (k + 1) = 8 * k + 8 by omega, List.take_add]
    rw [this]
theorem map_get (l : List Nat) (f : Nat → Bytes) (i : Nat) (hi : i < l.length) : (l.map f).getD i [] = f (l.getD i 0) := by
  simp [List.getD_eq_getElem?_getD, List.getElem?_eq_getElem hi]
/-- Shards of a stripe, some of which are not there. -/
def PartOf (sh : List Bytes) (k m : Nat) (d : Bytes) : Prop := ∀ i, i < k + m → sh.getD i [] = [] ∨ sh.getD i [] = (rencM k m d).getD i []
theorem decM_part (sh : List Bytes) (k m : Nat) (d : Bytes) (hk1 : 1 ≤ k) (hk : k ≤ 4) (hm : m ≤ 3) (hd : d.length = 8 * k) (hp : PartOf sh k m d) (hl : (selB sh k (k + m)).length = k) : decM k m sh = (d, 0) := by
  have hu := picks_unit sh k m hk1 hk hm hl
  have hok := picks_ok sh k m hk1 hk hm hl
  have hmem := selB_mem sh k (k + m)
  unfold decM
  rw [if_neg (by omega)]
  generalize selB sh k (k + m) = p at *
  have hpa : ∀ a, a < k → p.getD a 0 < k + m ∧ sh.getD (p.getD a 0) [] = sumK (rowC k (p.getD a 0)) (chunkK d k) 8 k := by
    intro a ha
    have hm1 : p.getD a 0 ∈ p := by
      rw [List.getD_eq_getElem?_getD, List.getElem?_eq_getElem (by omega), Option.getD_some]; exact List.getElem_mem _
    have h := hmem _ hm1
    refine ⟨h.1, ?_⟩
    rcases hp _ h.1 with e | e
    · rw [e] at h; exact absurd rfl h.2
    · rw [e, renc_get k m d hk1 hd _ h.1]
  obtain ⟨rows, hrows⟩ : ∃ rows, p.map (rowC k) = rows := ⟨_, rfl⟩
  obtain ⟨have_, hhave⟩ : ∃ have_, (p.map fun i => sh.getD i []) = have_ := ⟨_, rfl⟩
  have hrl : rows.length = k := by rw [← hrows, List.length_map, hl]
  have hhl : have_.length = k := by rw [← hhave, List.length_map, hl]
  have hra : ∀ a, a < k → rows.getD a [] = rowC k (p.getD a 0) := fun a ha => by rw [← hrows, map_get _ _ _ (by omega)]
  have hha : ∀ a, a < k → have_.getD a [] = sumK (rowC k (p.getD a 0)) (chunkK d k) 8 k := fun a ha => by rw [← hhave, map_get _ _ _ (by omega), (hpa a ha).2]
  rw [hrows] at hu hok
  rw [hrows, hhave]
  have hil : (invM rows).length = k := by rw [invM_length, hrl]
  have hrr : ∀ i, i < rows.length → (rows.getD i []).length = rows.length := fun i hi => by rw [hrl] at hi ⊢; rw [hra i hi, rowC_length]
  have hir : ∀ i, i < k → ((invM rows).getD i []).length = k := fun i hi => by rw [invM_row rows hrr hok i (by omega), hrl]
  have h8 : (have_.getD 0 []).length = 8 := by rw [hha 0 (by omega), sumK_length]
  have key : timesM (invM rows) have_ = chunkK d k := by
    apply List.ext_getElem
    · rw [timesM_length, hil, chunkK_length]
    · intro i h1 h2
      rw [timesM_length, hil] at h1
      have e1 : (timesM (invM rows) have_)[i]'(by rw [timesM_length, hil]; exact h1) = sumK ((invM rows).getD i []) have_ 8 k := by
        have hx : (invM rows)[i]'(by omega) = (invM rows).getD i [] := by rw [List.getD_eq_getElem?_getD, List.getElem?_eq_getElem (by omega), Option.getD_some]
        simp only [timesM, List.getElem_map, h8]
        rw [hx, hir i h1]
      have e2 : (chunkK d k)[i]'h2 = (chunkK d k).getD i [] := by rw [List.getD_eq_getElem?_getD, List.getElem?_eq_getElem h2, Option.getD_some]
      rw [e1, e2]
      apply bytes_ext
      · rw [sumK_length, chunkK_row d k i h1 hd]
      · intro j hj
        rw [sumK_length] at hj
        rw [sumK_get _ _ _ _ _ hj]
        rw [xsum_congr (g := fun a => xsum (fun l => gmul (gmul (((invM rows).getD i []).getD a 0) ((rows.getD a []).getD l 0)) (((chunkK d k).getD l []).getD j 0)) k) k (fun a ha => by
          rw [hha a ha, sumK_get _ _ _ _ _ hj, xsum_mul]
          exact xsum_congr k fun l _ => by rw [gmul_assoc, hra a ha])]
        rw [xsum_comm]
        rw [xsum_congr (g := fun l => gmul (if i = l then 1 else 0) (((chunkK d k).getD l []).getD j 0)) k (fun l hlk => by
          have hx := unit_at hu i l (by omega) (by omega)
          rw [hrl] at hx
          rw [← hx, xsum_mulr])]
        exact xsum_pick (fun l => ((chunkK d k).getD l []).getD j 0) i k h1
  rw [key, flatten_chunk d k (by omega), List.take_of_length_le (by omega)]
/-! enough of them are there -/
theorem selB_full (sh : List Bytes) (k n : Nat) (h : k ≤ ((List.range n).filter fun i => decide ((sh.getD i []).length ≠ 0)).length) : (selB sh k n).length = k := by
  have key : (selB sh k n).length = min k ((List.range n).filter fun i => decide ((sh.getD i []).length ≠ 0)).length := by
    clear h
    induction n with
    | zero => simp [selB]
    | succ n ih =>
      unfold selB
      rw [List.range_succ, List.filter_append]
      by_cases h1 : (sh.getD n []).length ≠ 0
      · rw [List.filter_cons_of_pos (by simpa using h1), List.filter_nil, List.length_append, List.length_singleton]
        split
        · rename_i h2
          rw [List.length_append, List.length_singleton]; omega
        · rename_i h2
          have : ¬ (selB sh k n).length < k := fun h3 => h2 ⟨h1, h3⟩
          omega
      · rw [if_neg (fun h => h1 h.1), List.filter_cons_of_neg (by simpa using h1), List.filter_nil, List.append_nil]
        exact ih
  rw [key]; omega
end Go.Proofs.Fl

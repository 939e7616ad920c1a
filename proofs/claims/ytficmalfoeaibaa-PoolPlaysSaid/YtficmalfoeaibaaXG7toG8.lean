import Derived.Test.YtficmalfoeaibaaXG6
import Derived.Test.YtficmalfoeaibaaXZ0
import Derived.BigRegion
namespace Go.Proofs.Fl
open Go.RowKit

set_option maxHeartbeats 400000 in
set_option maxRecDepth 100000 in
theorem clone_own {S : Nat → Prop} {v : Value} {l : Bytes} {w : World} (hB : Bs w S v l) (hn : l.length ≤ 1000000) :
    Calls Try.prog 105 #[v] w fun e w' => ∃ v', e = .returned v' ∧ w'.ownsRow w.heap.size tU8 1 v' l.length (u8s l) ∧ Below w.heap.size w w' := by
  have hB' := hB
  obtain ⟨ao, c, rfl, hlc, hcm, hsh⟩ := hB
  rcases hsh with ⟨rfl, rfl⟩ | ⟨b, o, rfl, _, hbw, hc⟩
  · have hl0 : l = [] := List.eq_nil_of_length_eq_zero (by omega)
    subst hl0
    have hnil := fun (w : World) (a : Option Addr) (n c : Nat) => Lib.run_eql_slice_nil (P := Try.prog) w _ _ a n c 0 0 Try.underlying28
    go_enter Try.func105, Try.ntmps105
    go_wp2
    go_ret
    exact ⟨_, rfl, World.ownsRow_nil _ _ _ 1, Below.refl _ _⟩
  · have HC := Lib.hid hc; clear hc
    have hnil := fun (w : World) (a : Option Addr) (n c : Nat) => Lib.run_eql_slice_nil (P := Try.prog) w _ _ a n c 0 0 Try.underlying28
    go_enter Try.func105, Try.ntmps105
    have hown0 : (w.alloc (.cells #[] tU8)).ownsRow w.heap.size tU8 1 (.slice (some ⟨w.heap.size, 0, none⟩) 0 0) 0 [] := World.ownsRow_made w #[] 0 (Nat.le_refl _) (by simp) (by simp)
    have hB1 : Bs (w.alloc (.cells #[] tU8)) S _ l := hB'.below ((Below.refl _ _).alloc (Nat.le_refl _) _)
    go_wp2_with (at_builtin; refine wpList_app_bs rfl _ _ _ rfl E28 w.heap.size hown0 hB1 rfl rfl (by omega) (by simp) ?_)
    intro v' w' hown' hg' _
    go_wp2
    go_ret
    have hbel : Below w.heap.size w w' := Grew.new ((Below.refl _ _).alloc (Nat.le_refl _) _) (by simp) hg' (fun g hg => by simp [Value.ownBlock] at hg; omega)
    exact ⟨_, rfl, by simpa using hown', hbel⟩

theorem Mt.empty (w : World) (base wd : Nat) (h : 0 < wd) (h2 : wd ≤ 1000) : Mt w base (.slice none 0 0) [] wd [] :=
  ⟨World.ownsRow_nil w base _ 1, fun i hi => absurd hi (Nat.not_lt_zero i), fun i _ hi => absurd hi (Nat.not_lt_zero i), h, h2, by simp⟩
/-- A row is laid behind the others. -/
theorem Mt.snoc {w w' : World} {base : Nat} {v v' x : Value} {vs : List Value} {wd : Nat} {rows : List Bytes} {r : Bytes} (h : Mt w base v vs wd rows) (hx : w.ownsRow base tU8 1 x wd (u8s r))
    (hd : ∀ i, i < rows.length → ∀ g, (vs.getD i undef).ownBlock = some g → x.ownBlock ≠ some g) (hl : rows.length < 1000)
    (ho : w'.ownsRow base tBytes 1 v' (rows.length + 1) (vs ++ [x])) (hg : Grew w v w' v') : Mt w' base v' (vs ++ [x]) wd (rows ++ [r]) := by
  have hvl := h.vlen
  have keep : ∀ (y : Value) (r : Bytes), w.ownsRow base tU8 1 y wd (u8s r) → w'.ownsRow base tU8 1 y wd (u8s r) := by
    intro y r hy
    refine hy.kept hg.by_ (.inr fun e => ?_)
    obtain ⟨g, c, ey⟩ := own_form hy h.pos
    exact own_ne hy h.own (by decide) g (by rw [ey]; rfl) (by rw [← e, ey]; rfl)
  refine ⟨by simpa using ho, fun i hi => ?_, fun i j hi hj hij g hg => ?_, h.pos, h.big, by simp; omega⟩
  · rw [List.length_append, List.length_singleton] at hi
    by_cases hlt : i < rows.length
    · rw [getD_snoc_lt _ _ _ _ (by omega), getD_snoc_lt _ _ _ _ hlt]
      exact keep _ _ (h.row i hlt)
    · obtain rfl : i = rows.length := by omega
      rw [getD_snoc_eq, ← hvl, getD_snoc_eq]
      exact keep _ _ hx
  · rw [List.length_append, List.length_singleton] at hi hj
    by_cases hlt : i < rows.length
    · rw [getD_snoc_lt _ _ _ _ (by omega)] at hg
      by_cases hlt2 : j < rows.length
      · rw [getD_snoc_lt _ _ _ _ (by omega)]
        exact h.ne i j hlt hlt2 hij g hg
      · obtain rfl : j = rows.length := by omega
        rw [← hvl, getD_snoc_eq]
        exact hd i hlt g hg
    · obtain rfl : i = rows.length := by omega
      have hlt2 : j < rows.length := by omega
      rw [← hvl, getD_snoc_eq] at hg
      rw [getD_snoc_lt _ _ _ _ (by omega)]
      intro e
      exact hd j hlt2 g e hg
def swapL {α : Type} (l : List α) (a b : Nat) (z : α) : List α := (l.set a (l.getD b z)).set b (l.getD a z)
@[simp] theorem swapL_length {α : Type} (l : List α) (a b : Nat) (z : α) : (swapL l a b z).length = l.length := by simp [swapL]
/-- Where an element went. -/
def swapI (a b i : Nat) : Nat := if i = b then a else if i = a then b else i
theorem swapL_get {α : Type} (l : List α) (a b i : Nat) (z : α) (ha : a < l.length) (hb : b < l.length) : (swapL l a b z).getD i z = l.getD (swapI a b i) z := by
  unfold swapL swapI
  by_cases h1 : i = b
  · subst h1
    rw [if_pos rfl, getD_set_eq _ _ _ _ (by simpa using hb)]
  · rw [if_neg h1, getD_set_ne _ _ _ _ _ (Ne.symm h1)]
    by_cases h2 : i = a
    · subst h2
      rw [if_pos rfl, getD_set_eq _ _ _ _ ha]
    · rw [if_neg h2, getD_set_ne _ _ _ _ _ (Ne.symm h2)]
theorem swapI_lt (a b i n : Nat) (ha : a < n) (hb : b < n) (hi : i < n) : swapI a b i < n := by
  unfold swapI; split
  · exact ha
  · split
    · exact hb
    · exact hi
theorem swapI_inj (a b i j : Nat) (h : swapI a b i = swapI a b j) : i = j := by
  unfold swapI at h
  split at h <;> split at h <;> (try split at h) <;> (try split at h) <;> omega
theorem Mt.swap {w : World} {base tb tc n : Nat} {vs : List Value} {wd : Nat} {rows : List Bytes} (h : Mt w base (.slice (some ⟨tb, 0, none⟩) n tc) vs wd rows) (a b : Nat) (ha : a < rows.length) (hb : b < rows.length) :
    Mt ((w.setCell ⟨tb, a, none⟩ (vs.getD b undef)).setCell ⟨tb, b, none⟩ (vs.getD a undef)) base (.slice (some ⟨tb, 0, none⟩) n tc) (swapL vs a b undef) wd (swapL rows a b []) := by
  have hn := own_len h.own
  subst hn
  have hvl := h.vlen
  obtain ⟨o1, g1⟩ := h.own.stored a (vs.getD b undef)
  obtain ⟨o2, g2⟩ := o1.stored b (vs.getD a undef)
  refine ⟨by rw [swapL_length]; exact o2, fun i hi => ?_, fun i j hi hj hij g hg => ?_, h.pos, h.big, by rw [swapL_length]; exact h.many⟩
  · rw [swapL_length] at hi
    rw [swapL_get _ _ _ _ _ (by omega) (by omega), swapL_get _ _ _ _ _ ha hb]
    have hr := h.row _ (swapI_lt a b i _ ha hb hi)
    obtain ⟨g, c, e⟩ := own_form hr h.pos
    have hne : (vs.getD (swapI a b i) undef).ownBlock ≠ some tb := fun e2 => own_ne hr h.own (by decide) tb e2 rfl
    exact own_keep (own_keep hr g1 hne) g2 hne
  · rw [swapL_length] at hi hj
    rw [swapL_get _ _ _ _ _ (by omega) (by omega)] at hg ⊢
    exact h.ne _ _ (swapI_lt a b i _ ha hb hi) (swapI_lt a b j _ ha hb hj) (fun e => hij (swapI_inj a b i j e)) g hg
end Go.Proofs.Fl

namespace Go.Proofs.Fl
open Go.RowKit

/-! ### the table that undoes another one -/
def wideR (r : Bytes) (n i : Nat) : Bytes := (r ++ List.replicate n 0).set (n + i) 1
def wideK (rows : List Bytes) (n k : Nat) : List Bytes := (List.range k).map fun i => wideR (rows.getD i []) n i
def pivot (T : List Bytes) (i n : Nat) : Option Nat := firstIn (fun j => (T.getD (i + j) []).getD i 0 != 0) (n - i)
def elimK (rows : List Bytes) (n : Nat) : Nat → List Bytes
  | 0 => wideK rows n n
  | i + 1 => clearM (swapL (elimK rows n i) i (i + (pivot (elimK rows n i) i n).getD 0) []) i
def invM (rows : List Bytes) : List Bytes := (elimK rows rows.length rows.length).map (List.drop rows.length)
def InvOk (rows : List Bytes) : Prop := ∀ i, i < rows.length → (pivot (elimK rows rows.length i) i rows.length).isSome = true
theorem wideK_succ (rows : List Bytes) (n k : Nat) : wideK rows n (k + 1) = wideK rows n k ++ [wideR (rows.getD k []) n k] := by simp [wideK, List.range_succ]
theorem wideK_length (rows : List Bytes) (n k : Nat) : (wideK rows n k).length = k := by simp [wideK]
theorem elimK_length (rows : List Bytes) (n i : Nat) : (elimK rows n i).length = n := by
  induction i with
  | zero => exact wideK_length _ _ _
  | succ i ih => unfold elimK clearM; rw [clearK_length, swapL_length, ih]

theorem own_le {w : World} {base base' size n : Nat} {e : TypeId} {v : Value} {xs : List Value} (h : w.ownsRow base e size v n xs) (hb : base' ≤ base) : w.ownsRow base' e size v n xs := by
  refine ⟨h.1, ?_⟩
  rcases h.2 with hn | ⟨g, cap, cur, rfl, hbg, r⟩
  · exact .inl hn
  · exact .inr ⟨g, cap, cur, rfl, Nat.le_trans hb hbg, r⟩
theorem Mt.tail {w : World} {base tb tc n : Nat} {vs : List Value} {wd : Nat} {rows : List Bytes} (h : Mt w base (.slice (some ⟨tb, 0, none⟩) n tc) vs wd rows) (i : Nat) (hi : i < n) : Sv w (fun _ => True) (.slice (some ⟨tb, i, none⟩) (n - i) (tc - i)) (vs.drop i) := by
  have hown := h.own
  have hn := own_len hown
  have hvl := h.vlen
  obtain ⟨a0, c0, e0, h1, h2, h3⟩ := Sv.of_own hown (fun _ => True) (fun _ _ => trivial)
  injection e0 with e1 _ e2
  subst e2
  rcases h3 with ⟨rfl, _⟩ | ⟨b, o, rfl, _, hb, hc⟩
  · cases e1
  · injection e1 with e1
    injection e1 with e1 e3
    subst e1; subst e3
    refine ⟨_, tc - i, by rw [List.length_drop, hvl, hn], by rw [List.length_drop]; omega, by omega, .inr ⟨tb, i, rfl, trivial, hb, fun j hj => ?_⟩⟩
    rw [List.length_drop] at hj
    have := hc (i + j) (by omega)
    rw [Nat.zero_add] at this
    rw [this]
    simp [List.getD_eq_getElem?_getD]
theorem Mt.cap {w : World} {base tb tc n : Nat} {vs : List Value} {wd : Nat} {rows : List Bytes} (h : Mt w base (.slice (some ⟨tb, 0, none⟩) n tc) vs wd rows) : n ≤ tc := by
  have hn := own_len h.own
  have hvl := h.vlen
  obtain ⟨a0, c0, e0, h1, _⟩ := Sv.of_own h.own (fun _ => True) (fun _ _ => trivial)
  injection e0 with e1 _ e2
  omega
theorem pivot_fn (S : Nat → Prop) (x i n : Nat) (rv : Value) (l : Bytes) (w : World) (hx : w.cell? ⟨x, 0, none⟩ = some (.int .i64 (i : Int))) (hB : Bs w S rv l) (hl : l.length = n) (hi : i < n) :
    Calls Try.prog 115 (#[rv] ++ #[.pointer (some ⟨x, 0, none⟩)]) w fun e w' => e = .returned (.bool (l.getD i 0 != 0)) ∧ w = w' := by
  show Calls Try.prog 115 #[rv, .pointer (some ⟨x, 0, none⟩)] w _
  obtain ⟨b, o, c, rfl, _, _, hc⟩ := hB.cellAt (by omega)
  have c1 := hc i (by omega)
  have hii : (i : Int) < (l.length : Int) := by omega
  have e0 : (l.getD i 0 != 0) = decide (¬ ((l.getD i 0).toNat : Int) = 0) := by
    have h : ∀ x : UInt8, (x != 0) = decide (¬ ((x.toNat : Nat) : Int) = 0) := by
      intro x
      by_cases h : x = 0
      · subst h; rfl
      · have : x.toNat ≠ 0 := fun e => h (UInt8.toNat.inj e)
        have h1 : (x != 0) = true := by simpa using h
        rw [h1]; symm; simpa using this
    exact h _
  rw [e0]
  clear hc hB e0
  generalize l.getD i 0 = y at *
  go_enter Try.func115, Try.ntmps115
  go_wp2
  go_ret
  refine ⟨?_, rfl⟩
  by_cases h : y.toNat = 0 <;> simp [h]

theorem Bs.cap {w : World} {S : Nat → Prop} {ao : Option Addr} {m c : Nat} {l : Bytes} (h : Bs w S (.slice ao m c) l) : m ≤ c := by
  obtain ⟨_, _, e, h1, _⟩ := h
  injection e with _ e1 e2
  omega
/-- Of so many rows the right half is left. -/
def LastI (w wr : World) (tb tc n : Nat) (T : List Bytes) (k : Nat) : Prop :=
  ∃ vs, wr.ownsRow w.heap.size tBytes 1 (.slice (some ⟨tb, 0, none⟩) n tc) n vs ∧ (∀ j, j < n → Bs wr (fun b => w.heap.size ≤ b ∧ b ≠ tb) (vs.getD j undef) (if j < k then (T.getD j []).drop n else T.getD j [])) ∧ Below w.heap.size w wr
theorem LastI.start {w wr : World} {tb tc n wd : Nat} {vs : List Value} {T : List Bytes} (h : Mt wr w.heap.size (.slice (some ⟨tb, 0, none⟩) n tc) vs wd T) (hn : T.length = n) (hb : Below w.heap.size w wr) : LastI w wr tb tc n T 0 := by
  subst hn
  refine ⟨vs, h.own, fun j hj => ?_, hb⟩
  rw [if_neg (by omega)]
  obtain ⟨g, c, e, _, hg, _, hr⟩ := h.at_ j hj
  rw [e]
  refine (Bs.of_row hr h.pos).mono fun b _ hb => ?_
  subst hb
  exact ⟨hg, fun e => own_ne hr h.own (by decide) _ rfl (by rw [e]; rfl)⟩
theorem LastI.done {w wr : World} {tb tc n : Nat} {T : List Bytes} (h : LastI w wr tb tc n T n) (hn : T.length = n) : TabO wr w.heap.size (Fresh w) (.slice (some ⟨tb, 0, none⟩) n tc) (T.map (List.drop n)) := by
  obtain ⟨vs, h1, h2, _⟩ := h
  refine ⟨vs, by rw [List.length_map, hn]; exact h1, fun i hi => ?_⟩
  rw [List.length_map, hn] at hi
  have h3 := h2 i hi
  rw [if_pos hi] at h3
  have e : (T.map (List.drop n)).getD i [] = (T.getD i []).drop n := by
    simp [List.getD_eq_getElem?_getD, List.getElem?_eq_getElem (show i < T.length by omega)]
  rw [e]
  exact h3.mono fun b _ hb => ⟨hb.1, fun e => hb.2 (own_some e).symm⟩
theorem LastI.next {w wr w1 : World} {tb tc n k : Nat} {T : List Bytes} {vs : List Value} {v : Value} (h1 : wr.ownsRow w.heap.size tBytes 1 (.slice (some ⟨tb, 0, none⟩) n tc) n vs)
    (h2 : ∀ j, j < n → Bs wr (fun b => w.heap.size ≤ b ∧ b ≠ tb) (vs.getD j undef) (if j < k then (T.getD j []).drop n else T.getD j [])) (hb : Below w.heap.size w wr) (hk : k < n) (hv : Bs w1 (Fresh wr) v ((T.getD k []).drop n)) (hb1 : Below wr.heap.size wr w1) :
    LastI w (w1.setCell ⟨tb, k, none⟩ v) tb tc n T (k + 1) := by
  have hl : vs.length = n := by have := h1.1; simpa using this
  have st := (own_below h1 hb1).stored k v
  have hm : Mod (fun b => b = tb) w1 (w1.setCell ⟨tb, k, none⟩ v) := (Mod.refl (fun b => b = tb) w1).setCell (p := ⟨tb, k, none⟩) (fun _ => rfl) v
  have htb := h1.lt tb rfl
  refine ⟨vs.set k v, st.1, fun j hj => ?_, (hb.trans (hb1.mono hb.size)).setCell (p := ⟨tb, k, none⟩) htb.1 v⟩
  by_cases hjk : k = j
  · subst hjk
    rw [getD_set_eq _ _ _ _ (by omega), if_pos (by omega)]
    exact (hv.kept hm (fun b _ hb e => by have hb' : wr.heap.size ≤ b := hb; omega)).mono fun b _ hb' => ⟨Nat.le_trans hb.size hb', fun e => by have hb2 : wr.heap.size ≤ b := hb'; omega⟩
  · rw [getD_set_ne _ _ _ _ _ hjk]
    have e : (if j < k + 1 then (T.getD j []).drop n else T.getD j []) = (if j < k then (T.getD j []).drop n else T.getD j []) := by
      by_cases h : j < k
      · rw [if_pos h, if_pos (by omega)]
      · rw [if_neg h, if_neg (by omega)]
    rw [e]
    exact ((h2 j hj).below hb1).kept hm (fun b _ hb e => hb.2 e)
set_option maxHeartbeats 4000000 in
set_option maxRecDepth 100000 in
theorem invert_any {S : Nat → Prop} {va : Value} {rows : List Bytes} {w : World} (hA : Tb w S va rows) (n : Nat) (hn : rows.length = n) (h0 : 0 < n) (h7 : n ≤ 7) (hl : ∀ i, i < n → (rows.getD i []).length = n) (hok : InvOk rows) :
    Calls Try.prog 88 #[va] w fun e w' => ∃ v, e = .returned (.tuple #[v, .int .i64 0]) ∧ TabO w' w.heap.size (Fresh w) v (invM rows) ∧ Below w.heap.size w w' := by
  have hfa := fit_any hA (by omega) n (by omega) (by rw [hn]; exact hl)
  unfold InvOk at hok
  unfold invM
  rw [hn] at hok ⊢
  obtain ⟨ba, oa, ka, rfl, sa, bwa, hka, cella⟩ := hA.cellAt (by omega)
  rw [hn] at hka cella hfa ⊢
  obtain ⟨ao0, c0, x0, hA0⟩ := cella 0 h0
  rw [hl 0 h0, Nat.add_zero] at x0
  have hn0 : (0 : Int) < (n : Int) := by omega
  have hn7 : ¬ (7 : Int) < (n : Int) := by omega
  have HCA := Lib.hid cella; have HL := Lib.hid hl; have HOK := Lib.hid hok
  clear hA hl cella hok hA0
  go_enter Try.func88, Try.ntmps88
  go_wp2_with (fail)
  refine hfa.mono ?_
  rintro e w1 ⟨rfl, hb1⟩
  have x1 := (hb1.cell (p := ⟨ba, oa, none⟩) bwa).trans x0
  clear hfa x0
  go_wp2
  clear x1
  go_loopw [5, 31] (fun v i wr => ∃ k : Nat, k ≤ n ∧ i = .int .i64 k ∧ (∃ vs, Mt wr w.heap.size v vs (n + n) (wideK rows n k)) ∧ Below w.heap.size w wr)
    (fun _ i _ => n - (intOf i).toNat)
  case atStart => exact ⟨0, by omega, rfl, ⟨[], Mt.empty _ _ _ (by omega) (by omega)⟩, hb1⟩
  case round =>
    clear hb1
    obtain ⟨k, hk, rfl, ⟨vs, hm⟩, hb⟩ := hrel
    obtain ⟨wa, hwa⟩ : ∃ wa, wa = wr := ⟨_, rfl⟩
    subst hwa
    by_cases hlt : k < n
    · obtain ⟨ak, ck, ca1, hAk⟩ := HCA.out k hlt
      rw [HL.out k hlt] at ca1 hAk
      have hws := wideK_succ rows n k
      have hlr := HL.out k hlt
      obtain ⟨rk, hrk⟩ : ∃ rk, rows.getD k [] = rk := ⟨_, rfl⟩
      rw [hrk] at hAk hws hlr
      have HWS := Lib.hid hws
      clear hws hrk
      have ca2 := (hb.cell (p := ⟨ba, oa + k, none⟩) bwa).trans ca1
      have hAk2 := (hAk.mono (T := fun _ => True) (fun _ _ _ => trivial)).below hb
      have HM := Lib.hid hm
      obtain ⟨oa5, on5, oc5, rfl⟩ := own_shape hm.own
      obtain rfl := own_len hm.own
      rw [wideK_length] at *
      clear hm
      go_wp2_with (fail)
      refine (clone_own hAk2 (by omega)).mono ?_
      rintro e w2 ⟨v2, rfl, hown2, hb2⟩
      rw [hlr] at hown2
      have HO2 := Lib.hid hown2
      obtain ⟨oa6, on6, oc6, rfl⟩ := own_shape hown2
      clear hown2 ca1 ca2 hAk hAk2
      go_wp2_with (at_builtin; refine wpList_zeros rfl _ _ _ _ rfl E28 (k := .i64) (by rfl) wa.heap.size _ n HO2.out rfl rfl rfl rfl (by omega) hb2.size ?_)
      intro v3 w3 hown3 hg3
      rw [u8s_zeros, ← u8s_append] at hown3
      obtain ⟨g3, c3, rfl⟩ := own_form hown3 (by omega)
      have f3 := hown3.frozenAt (n + k)
      have y3 := hown3.cellAt (n + k) (by omega)
      rw [u8s_at _ _ (by rw [List.length_append, List.length_replicate, hlr]; omega)] at y3
      have st := hown3.stored (n + k) (.int .u8 1)
      have er : (u8s (rk ++ List.replicate n 0)).set (n + k) (.int .u8 1) = u8s (wideR rk n k) := u8s_set _ _ 1
      rw [er] at st
      have hnew : ∀ g, (Value.slice (some ⟨g3, 0, none⟩) (n + n) c3).ownBlock = some g → wa.heap.size ≤ g := fun g hg => by
        have := (hown3.lt g hg).1; exact this
      have hb3 : Below wa.heap.size wa (w3.setCell ⟨g3, n + k, none⟩ (.int .u8 1)) := (Grew.new hb2 hb2.size hg3 (fun g hg => (HO2.out.lt g hg).1)).grown st.2 (Nat.le_trans hb2.size hg3.by_.size) (fun g hg => by cases hg; exact hnew _ rfl)
      have hkn : (k : Int) + (n : Int) < (n : Int) + (n : Int) := by omega
      have hkn' : (n : Int) + (k : Int) < (n : Int) + (n : Int) := by omega
      have hm3 := HM.out.below hb3
      have ST := Lib.hid st; have HB3 := Lib.hid hb3; have HM3 := Lib.hid hm3; have HNEW := Lib.hid hnew
      clear st er hb3 hg3 hb2 hown3 hnew hm3
      generalize hyy : (rk ++ List.replicate n 0).getD (n + k) 0 = yy at *
      clear hyy
      have hbw3 : Below w.heap.size w (w3.setCell ⟨g3, n + k, none⟩ (.int .u8 1)) := hb.trans (HB3.out.mono hb.size)
      have hown5 := HM3.out.own
      rw [wideK_length] at hown5
      go_wp2_with (at_builtin; refine wpList_app_new rfl _ _ _ rfl E59 w.heap.size _ 1 hown5 rfl (by show Value.slice (some ⟨w3.heap.size, 0, none⟩) 1 1 = _; simp) rfl (by intro u hu; simp at hu; subst hu; rfl) (by omega) (by decide) hbw3.size ?_)
      intro v' w5 hown6 hg6 _
      have hsn := HM3.out.snoc (own_le ST.out.1 hb.size) (fun i hi g hg e => by
        have h1 := (HM.out.row i hi).lt g hg
        have h2 := HNEW.out g e
        omega) (by rw [wideK_length]; omega) (by rw [wideK_length]; exact hown6) hg6
      rw [← HWS.out] at hsn
      have hb5 := Grew.new hbw3 hbw3.size hg6 (fun g hg => (HM3.out.own.lt g hg).1)
      have HS := Lib.hid hsn; have HB5 := Lib.hid hb5
      obtain ⟨oa7, on7, oc7, rfl⟩ := own_shape hown6
      clear hsn hb5 hg6 hown6 hown5 hbw3
      go_wp2
      go_roundw
      case rel => exact ⟨k + 1, by omega, by go_num, ⟨_, HS.out⟩, HB5.out⟩
      case measure => simp [intOf]; omega
    · obtain rfl : n = k := by omega
      obtain ⟨tb, tc, ev⟩ := hm.form (by rw [wideK_length]; omega)
      rw [wideK_length] at ev
      subst ev
      have HM0 := Lib.hid hm
      clear hm
      go_wp2
      go_loopw [51] (fun ix wr => ∃ i : Nat, i ≤ n ∧ ix = .int .i64 i ∧ (∃ vs, Mt wr w.heap.size (.slice (some ⟨tb, 0, none⟩) n tc) vs (n + n) (elimK rows n i)) ∧ Below w.heap.size w wr)
        (fun ix _ => n - (intOf ix).toNat)
      case atStart => exact ⟨0, by omega, rfl, ⟨_, HM0.out⟩, hb⟩
      case round =>
        clear hb
        obtain ⟨i, hi, rfl, ⟨vs2, hm⟩, hb⟩ := hrel
        obtain ⟨wb, hwb⟩ : ∃ wb, wb = wr := ⟨_, rfl⟩
        subst hwb
        by_cases hlt2 : i < n
        · have hlen := elimK_length rows n i
          have hok := HOK.out i hlt2
          have hel : elimK rows n (i + 1) = clearM (swapL (elimK rows n i) i (i + (pivot (elimK rows n i) i n).getD 0) []) i := rfl
          cases hp : pivot (elimK rows n i) i n with
          | none => rw [hp] at hok; cases hok
          | some at_ =>
            rw [hp, Option.getD_some] at hel
            unfold pivot at hp
            have hat := (firstIn_spec hp).1
            have hbox : Below wb.heap.size wb (wb.alloc (.cells #[.int .i64 (i : Int)] 3)) := (Below.refl _ _).alloc (Nat.le_refl _) _
            have hm1 := hm.below hbox
            have hvl := hm.vlen
            rw [hlen] at hvl
            have hidx := index_any 115 #[.pointer (some ⟨wb.heap.size, 0, none⟩)] _ _ _ (vs2.drop i) (wb.alloc (.cells #[.int .i64 (i : Int)] 3)) (hm1.tail i hlt2) (by rw [List.length_drop]; omega) (fun _ _ => rfl) (fun j hj => by
              rw [List.length_drop, hvl] at hj
              have ej : (vs2.drop i).getD j undef = vs2.getD (i + j) undef := by simp [List.getD_eq_getElem?_getD]
              rw [ej]
              obtain ⟨g, c, e, _, _, _, hr⟩ := hm1.at_ (i + j) (by omega)
              rw [e]
              exact pivot_fn _ wb.heap.size i (n + n) _ _ _ (by rw [World.cell?_alloc_new]; rfl) (Bs.of_row hr (by omega)) (hm1.len (i + j) (by omega)) (by omega))
            rw [List.length_drop, hvl] at hidx
            have e3 : firstIn (fun j => ((elimK rows n i).getD (i + j) []).getD i 0 != 0) (n - i) = some at_ := hp
            rw [e3] at hidx
            have e4 : idxV (some at_) = (at_ : Int) := rfl
            rw [e4] at hidx
            have HIDX := Lib.hid hidx; have HEL := Lib.hid hel; have HM1 := Lib.hid hm1
            have hil : (i : Int) ≤ (n : Int) := by omega
            clear hidx hel hm1 hm hp e3 e4 hok
            have hitc : i < tc := Nat.lt_of_lt_of_le hlt2 HM1.out.cap
            have hitn : ¬ tc = i := by omega
            go_wp2_with (fail)
            refine HIDX.out.mono ?_
            rintro e w2 ⟨rfl, rfl⟩
            have xb : (wb.alloc (.cells #[.int .i64 (i : Int)] 3)).cell? ⟨wb.heap.size, 0, none⟩ = some (.int .i64 (i : Int)) := by rw [World.cell?_alloc_new]; rfl
            have htb : tb < wb.heap.size := by
              have h1 := (HM1.out.own.lt tb rfl).2
              rcases Nat.lt_or_ge tb wb.heap.size with h | h
              · exact h
              · exfalso
                have h2 : tb = wb.heap.size := by simp at h1; omega
                obtain ⟨cs, h3⟩ := own_ty HM1.out.own tb rfl
                rw [h2, heap_alloc_new] at h3
                injection h3 with h3
                injection h3 with _ h3
                exact absurd h3 (by decide)
            have htb1 : ¬ tb = wb.heap.size := by omega
            have htb2 : ¬ wb.heap.size = tb := by omega
            have hbc : Below w.heap.size w (wb.alloc (.cells #[.int .i64 (i : Int)] 3)) := hb.alloc hb.size _
            obtain ⟨g1, k1, e1, q1, _, _, _⟩ := HM1.out.at_ i (by omega)
            obtain ⟨g2, k2, e2, q2, _, _, _⟩ := HM1.out.at_ (i + at_) (by omega)
            have hO := HM1.out.own
            rw [hlen] at hO
            have f1 := hO.frozenAt i
            have f2 := hO.frozenAt (i + at_)
            have q3 := (hO.stored i (vs2.getD (i + at_) undef)).1.cellAt (i + at_) (by omega)
            have q4 : (vs2.set i (vs2.getD (i + at_) undef))[i + at_]? = some (vs2.getD (i + at_) undef) := by
              rw [List.getElem?_set]
              split
              · rw [if_pos (by omega)]
              · simp [List.getD_eq_getElem?_getD, List.getElem?_eq_getElem (show i + at_ < vs2.length by omega)]
            rw [q4, e2] at q3
            clear hO q4
            have hsw := HM1.out.swap i (i + at_) (by omega) (by omega)
            have hbs : Below w.heap.size w (((wb.alloc (.cells #[.int .i64 (i : Int)] 3)).setCell ⟨tb, i, none⟩ (vs2.getD (i + at_) undef)).setCell ⟨tb, i + at_, none⟩ (vs2.getD i undef)) :=
              (hbc.setCell (p := ⟨tb, i, none⟩) (HM1.out.own.lt tb rfl).1 _).setCell (p := ⟨tb, i + at_, none⟩) (HM1.out.own.lt tb rfl).1 _
            rw [e1, e2] at hsw hbs
            have b1 : i < n := hlt2
            have b2 : i + at_ < n := by omega
            have b3 : (i : Int) + (at_ : Int) < (n : Int) := by omega
            have b4 : IntKind.i64.wrap ((i : Int) + (at_ : Int)) = (i : Int) + (at_ : Int) := IntWalk.i64_in _ (by constructor <;> omega)
            have b5 : (0 : Int) ≤ (i : Int) + (at_ : Int) := by omega
            have b6 : ((i : Int) + (at_ : Int)).toNat = i + at_ := by omega
            have hgg : at_ = 0 → g2 = g1 ∧ k2 = k1 := fun h => by
              subst h
              rw [Nat.add_zero, e1] at e2
              injection e2 with e2 _ e3
              injection e2 with e2
              injection e2 with e2
              exact ⟨e2.symm, e3.symm⟩
            have HGG := Lib.hid hgg
            clear hgg
            have HSW := Lib.hid hsw; have HBS := Lib.hid hbs; have HBC := Lib.hid hbc
            clear hsw hbs hbc e1 e2 hb
            generalize hwc : wb.alloc (.cells #[.int .i64 (i : Int)] 3) = wc at *
            clear hwc
            go_wp2
            by_cases hz : at_ = 0
            · obtain ⟨rfl, rfl⟩ := HGG.out hz
              subst hz
              simp only [Nat.add_zero] at *
              go_big_region
              go_wp2_with (go_at_call 116; refine (clear_any w.heap.size _ _ (n + n) _ i _ HSW.out.drew (by rw [swapL_length, hlen]; omega) (by omega) HBS.out.drew.size).mono ?_; rintro e w4 ⟨rfl, hm4, hb4⟩)
              have hm5 := hm4
              rw [← HEL.out] at hm5
              have hb5 := HBS.out.drew.trans hb4
              have HM5 := Lib.hid hm5; have HB5 := Lib.hid hb5
              clear hm4 hm5 hb4 hb5
              go_wp2
              go_roundw
              case rel => exact ⟨i + 1, by omega, by go_num, ⟨_, HM5.out⟩, HB5.out⟩
              case measure => simp [intOf]; omega
            have hz1 : ¬ i = i + at_ := by omega
            have hz2 : ¬ i + at_ = i := by omega
            go_big_region
            go_wp2_with (go_at_call 116; refine (clear_any w.heap.size _ _ (n + n) _ i _ HSW.out.drew (by rw [swapL_length, hlen]; omega) (by omega) HBS.out.drew.size).mono ?_; rintro e w4 ⟨rfl, hm4, hb4⟩)
            have hm5 := hm4
            rw [← HEL.out] at hm5
            have hb5 := HBS.out.drew.trans hb4
            have HM5 := Lib.hid hm5; have HB5 := Lib.hid hb5
            clear hm4 hm5 hb4 hb5
            go_wp2
            go_roundw
            case rel => exact ⟨i + 1, by omega, by go_num, ⟨_, HM5.out⟩, HB5.out⟩
            case measure => simp [intOf]; omega
        · obtain rfl : n = i := by omega
          have hel := elimK_length rows n n
          have hst := LastI.start hm hel hb
          have hlen1 : ∀ j, j < n → ((elimK rows n n).getD j []).length = n + n := fun j hj => hm.len j (by omega)
          obtain ⟨T, hT⟩ : ∃ T, elimK rows n n = T := ⟨_, rfl⟩
          rw [hT] at hst hlen1 hel
          have HTT := Lib.hid hT
          have HST := Lib.hid hst; have HLN := Lib.hid hlen1
          clear hm hb hst hlen1 hT
          go_wp2
          go_loopw [85] (fun ix wr => ∃ k : Nat, k ≤ n ∧ ix = .int .i64 k ∧ LastI w wr tb tc n T k) (fun ix _ => n - (intOf ix).toNat)
          case atStart => exact ⟨0, by omega, rfl, HST.out⟩
          case round =>
            obtain ⟨k, hk, rfl, hL⟩ := hrel
            by_cases hlt3 : k < n
            · obtain ⟨vs3, h1, h2, hb⟩ := hL
              have hBk := h2 k hlt3
              rw [if_neg (by omega)] at hBk
              have hln := HLN.out k hlt3
              have hc := h1.cellAt k (by omega)
              have hvl : vs3.length = n := by have := h1.1; simpa using this
              have e2 : vs3[k]? = some (vs3.getD k undef) := by simp [List.getD_eq_getElem?_getD, List.getElem?_eq_getElem (show k < vs3.length by omega)]
              obtain ⟨b, o, c, e3, _, _, _⟩ := hBk.cellAt (by omega)
              rw [e2] at hc
              rw [e3] at hBk hc
              rw [hln] at hBk hc
              have hcn : n + n ≤ c := hBk.cap
              have hcn1 : ¬ c = n := by omega
              have hcut := hBk.cut n n (by omega)
              have e4 : ((T.getD k []).drop n).take n = (T.getD k []).drop n := List.take_of_length_le (by rw [List.length_drop]; omega)
              rw [e4] at hcut
              have hdl : ((T.getD k []).drop n).length = n := by rw [List.length_drop]; omega
              have hfr := h1.frozenAt k
              have H1 := Lib.hid h1; have H2 := Lib.hid h2; have HCUT := Lib.hid hcut
              clear h1 h2 hBk hcut e4
              go_wp2_with (fail)
              refine (clone_any HCUT.out (by rw [hdl]; omega)).mono ?_
              rintro e w4 ⟨v4, rfl, hC, hb4⟩
              have hfr4 := (own_below H1.out hb4).frozenAt k
              have hc4 := (hb4.cell (p := ⟨tb, k, none⟩) (World.block_lt_of_cell? wr _ hc)).trans hc
              have hnx := LastI.next H1.out H2.out hb hlt3 hC hb4
              obtain ⟨ao4, kc4, rfl⟩ := hC.shape
              rw [hdl] at *
              have HNX := Lib.hid hnx
              clear hnx hC hb4 hc hfr
              go_wp2
              go_roundw
              case rel => exact ⟨k + 1, by omega, by go_num, HNX.out⟩
              case measure => simp [intOf]; omega
            · obtain rfl : n = k := by omega
              have hd := hL.done hel
              have hbb : Below w.heap.size w wr := hL.choose_spec.2.2
              have HD := Lib.hid hd; have HBB := Lib.hid hbb
              clear hd hbb hL
              go_wp2
              go_ret2
              exact ⟨_, rfl, by rw [HTT.out]; exact HD.out, HBB.out⟩
end Go.Proofs.Fl

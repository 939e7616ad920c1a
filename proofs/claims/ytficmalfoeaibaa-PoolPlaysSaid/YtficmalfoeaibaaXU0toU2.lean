import Derived.Test.YtficmalfoeaibaaXG7toG8
import Derived.Test.YtficmalfoeaibaaXF5
import Derived.RangeFuncBox
import Derived.RangeFuncLeaves
import Derived.Shelf.Abstract
import Derived.OwnWalkIn
import Derived.TacticsInMore
import Derived.LoopNIn
import Derived.LoopIn
import Derived.RegionIn
import Derived.Maps.AppendAt
import Derived.Test.YtficmalfoeaibaaXM0toM1
import Derived.Test.YtficmalfoeaibaaXG10toG14
import Derived.Test.YtficmalfoeaibaaXM2toM3
namespace Go.Proofs.Fl
open Go.RowKit Go.Shelf

attribute [local go_sem] Oper.semAt_some

/-- A piece of the data. -/
def piece (db do_ : Nat) (x : Nat) : Value := .slice (some ⟨db, do_ + 8 * x, none⟩) 8 8

theorem range_pre {a b : Nat} (h : a ≤ b) : List.range a <+: List.range b := by
  refine ⟨(List.range (b - a)).map (a + ·), ?_⟩
  rw [← List.range_add, Nat.add_sub_cancel' h]
set_option maxRecDepth 100000 in
set_option maxHeartbeats 2000000 in
/-- slices.Chunk's closure, for every loop body that keeps the two boxes. -/
theorem chunk1_in (F : Fence) (n : Nat) (h129 : F.fn 129) (hro : F.round = none) (hn : 1 ≤ n) (l bs bn db do_ dc k : Nat) (hk : k ≤ 4) (hcap : 8 * k ≤ dc) (S : Nat → Prop) (hbsS : ¬ S bs) (hbnS : ¬ S bn) (J Jx : List Nat → World → Prop)
    (hY : ∀ pre x W, J pre W → pre.length < k → YieldAt F (n - 1) Try.prog l #[piece db do_ x] W fun e W' =>
      (e = .returned (.bool true) ∧ J (pre ++ [x]) W' ∧ Mod S W W') ∨ (e = .returned (.bool false) ∧ Jx (pre ++ [x]) W'))
    (W : World) (hbs : W.cell? ⟨bs, 0, none⟩ = some (.slice (some ⟨db, do_, none⟩) (8 * k) dc)) (hbn : W.cell? ⟨bn, 0, none⟩ = some (.int .i64 8)) (hbsl : bs < W.heap.size) (hbnl : bn < W.heap.size) (hJ : AbidesFrom W.heap.size J) (h0 : J [] W) :
    CallsIn F n Try.prog 129 #[.func (.yield l) #[] #[], .pointer (some ⟨bs, 0, none⟩), .pointer (some ⟨bn, 0, none⟩)] W fun e W' => (∃ v, e = .returned v) ∧
      ((∃ ys, ys = List.range k ∧ J ys W') ∨ (∃ pre, pre <+: List.range k ∧ Jx pre W')) := by
  refine callsIn_of_wp Try.func129 rfl h129 ?_ hro
  simp only [Try.ntmps129, List.size_toArray, List.length_cons, List.length_nil, Nat.reduceAdd, Nat.reduceSub, Array.replicate_succ, Array.replicate_zero, List.push_toArray, List.append_toArray, List.nil_append, List.cons_append]
  gi_wp2
  gi_loopw [4] (fun i wr => ∃ j : Nat, j ≤ k ∧ i = .int .i64 (8 * j : Nat) ∧ J (List.range j) wr ∧ Mod S W wr)
    (fun i _ => 8 * k - (intOf i).toNat)
  case atStart => exact ⟨0, Nat.zero_le _, rfl, h0, Mod.refl _ _⟩
  case round =>
    obtain ⟨j, hj, rfl, hJs, hmx⟩ := hrel
    have c1 := (hmx.cell (p := ⟨bs, 0, none⟩) hbsl hbsS).trans hbs
    have c2 := (hmx.cell (p := ⟨bn, 0, none⟩) hbnl hbnS).trans hbn
    by_cases hlt : j < k
    · have hdj : ¬ dc = 8 * j := by omega
      have hmin : ¬ ((8 * k - 8 * j : Nat) : Int) < 8 := by omega
      have hmin2 : min (8 : Int) ((8 * k - 8 * j : Nat) : Int) = 8 := by omega
      have hJd : J (List.range j) wr.drew := hJ _ wr wr.drew none hJs ⟨rfl, rfl, rfl, Nat.le_refl _, fun _ _ _ => rfl⟩ (fun r e => by cases e)
      have hmd : Mod S W wr.drew := hmx.drew
      have d1 : wr.drew.cell? ⟨bs, 0, none⟩ = some (.slice (some ⟨db, do_, none⟩) (8 * k) dc) := c1
      have d2 : wr.drew.cell? ⟨bn, 0, none⟩ = some (.int .i64 8) := c2
      obtain ⟨fn, tmps, assign, body, hy, hR⟩ := hY _ j wr.drew hJd (by rw [List.length_range]; exact hlt)
      dsimp only [piece] at hy
      gi_wp2
      gi_region
      all_goals
        gi_wp2
        refine hR.mono ?_
        rintro e W3 (⟨rfl, hJ3, hk3⟩ | ⟨rfl, hJx3⟩)
        · have e2 := (hk3.cell (w := wr.drew) (p := ⟨bn, 0, none⟩) (Nat.lt_of_lt_of_le hbnl hmd.size) hbnS).trans d2
          gi_wp2
          go_roundw
          case rel => exact ⟨j + 1, by omega, by go_num, by rw [List.range_succ]; exact hJ3, hmd.trans hk3⟩
          case measure => simp [intOf]; omega
        · gi_wp2
          refine bodyPost_ret (results_none rfl _ _ _) rfl ?_
          exact ⟨⟨_, rfl⟩, .inr ⟨_, by rw [← List.range_succ]; exact range_pre (by omega), hJx3⟩⟩
    · obtain rfl : j = k := by omega
      gi_wp2
      go_end0
      exact ⟨⟨_, rfl⟩, .inl ⟨_, rfl, hJs⟩⟩

set_option maxRecDepth 100000 in
set_option maxHeartbeats 1000000 in
/-- slices.Chunk(s, 8): two boxes, and a function value over them. -/
theorem chunk_in (F : Fence) (n : Nat) (h128 : F.fn 128) (hro : F.round = none) (a : Option Addr) (len cap : Nat) (w : World) :
    CallsIn F n Try.prog 128 #[.slice a len cap, .int .i64 8] w fun e w' => e = .returned (.func (.func 129) #[] #[.pointer (some ⟨w.heap.size, 0, none⟩), .pointer (some ⟨w.heap.size + 1, 0, none⟩)]) ∧ w' = (w.alloc (.cells #[.slice a len cap] 28)).alloc (.cells #[.int .i64 8] 3) := by
  refine callsIn_of_wp Try.func128 rfl h128 ?_ hro
  simp only [Try.ntmps128, List.size_toArray, List.length_cons, List.length_nil, Nat.reduceAdd, Nat.reduceSub, Array.replicate_succ, Array.replicate_zero, List.push_toArray, List.append_toArray, List.nil_append, List.cons_append]
  gi_wp2
  go_ret
  exact ⟨rfl, rfl⟩

theorem chunk_stops (F : Fence) (n : Nat) (h129 : F.fn 129) (hro : F.round = none) (hn : 1 ≤ n) (bs bn db do_ dc k : Nat) (hk : k ≤ 4) (hcap : 8 * k ≤ dc) (S : Nat → Prop) (hbsS : ¬ S bs) (hbnS : ¬ S bn) (w : World)
    (hbs : w.cell? ⟨bs, 0, none⟩ = some (.slice (some ⟨db, do_, none⟩) (8 * k) dc)) (hbn : w.cell? ⟨bn, 0, none⟩ = some (.int .i64 8)) (hbsl : bs < w.heap.size) (hbnl : bn < w.heap.size) :
    SeqStopsK F n Try.prog 129 #[.pointer (some ⟨bs, 0, none⟩), .pointer (some ⟨bn, 0, none⟩)] (fun x : Nat => #[piece db do_ x]) (Mod S) (fun ys => ys = List.range k) (fun pre => pre <+: List.range k) k w := fun l J Jx W hW hJ _ hY h0 =>
  chunk1_in F n h129 hro hn l bs bn db do_ dc k hk hcap S hbsS hbnS J Jx hY W ((hW.cell (p := ⟨bs, 0, none⟩) hbsl).trans hbs) ((hW.cell (p := ⟨bn, 0, none⟩) hbnl).trans hbn) (Nat.lt_of_lt_of_le hbsl hW.size) (Nat.lt_of_lt_of_le hbnl hW.size) hJ h0

theorem modK_b {S : Nat → Prop} {w : World} (hS : ∀ b, w.heap.size ≤ b → S b) (W : World) (l : Nat) (o o' : Obj) (hl : w.heap.size ≤ l) (_ : W.heap[l]? = some o) (_ : o.isCells = false) (_ : o.isWalk = false) : Mod S W (W.putObj l o') :=
  (Mod.refl S W).grown (grownBy_putObj' W l o') (fun k e _ => by cases e; exact hS l hl)

set_option maxRecDepth 100000 in
set_option maxHeartbeats 2000000 in
theorem parts_in (F : Fence) (n : Nat) (h119 : F.fn 119) (h128 : F.fn 128) (h129 : F.fn 129) (hro : F.round = none) (hn : 3 ≤ n) (db do_ dc k : Nat) (hk : k ≤ 4) (hcap : 8 * k ≤ dc) (w : World) :
    CallsIn F n Try.prog 119 #[.slice (some ⟨db, do_, none⟩) (8 * k) dc] w fun e W' => ∃ v, e = .returned v ∧ W'.ownsRow w.heap.size tBytes 1 v k ((List.range k).map (piece db do_)) ∧ Below w.heap.size w W' := by
  have h1 : 1 ≤ n := by omega
  obtain ⟨i0, hi, hz0, hz1, hz2⟩ := info_parts E59.info
  refine callsIn_of_wp_marks Try.func119 rfl h119 ?_ hro
  simp only [Try.ntmps119, List.size_toArray, List.length_cons, List.length_nil, Nat.reduceAdd, Nat.reduceSub, Array.replicate_succ, Array.replicate_zero, List.push_toArray, List.append_toArray, List.nil_append, List.cons_append]
  gi_wp2_with (gi_at_call 128; refine (chunk_in F (n - 1) h128 hro _ _ _ _).mono ?_; rintro e w' ⟨rfl, rfl⟩)
  have bO := Boxed.new w 59 (.slice none 0 0)
  have bS := Boxed.new (w.alloc (.cells #[.slice none 0 0] 59)) 28 (.slice (some ⟨db, do_, none⟩) (8 * k) dc)
  have bN := Boxed.new ((w.alloc (.cells #[.slice none 0 0] 59)).alloc (.cells #[.slice (some ⟨db, do_, none⟩) (8 * k) dc] 28)) 3 (.int .i64 8)
  rw [World.size_alloc] at bS
  rw [World.size_alloc, World.size_alloc] at bN
  have bS2 := bS.alloc (.cells #[.int .i64 8] 3)
  have bO2 := (bO.alloc (.cells #[.slice (some ⟨db, do_, none⟩) (8 * k) dc] 28)).alloc (.cells #[.int .i64 8] 3)
  have hB0 : Below w.heap.size w (((w.alloc (.cells #[.slice none 0 0] 59)).alloc (.cells #[.slice (some ⟨db, do_, none⟩) (8 * k) dc] 28)).alloc (.cells #[.int .i64 8] 3)) := ((((Below.refl _ w).alloc (Nat.le_refl _) _).alloc (by simp) _).alloc (by simp; omega) _)
  obtain ⟨S, hS⟩ : ∃ S : Nat → Prop, (fun b => b = w.heap.size ∨ w.heap.size + 3 ≤ b) = S := ⟨_, rfl⟩
  have s1 : ¬ S (w.heap.size + 1) := by rw [← hS]; intro h; rcases h with h | h <;> omega
  have s2 : ¬ S (w.heap.size + 1 + 1) := by rw [← hS]; intro h; rcases h with h | h <;> omega
  have s3 : ∀ b, w.heap.size + 3 ≤ b → S b := fun b h => by rw [← hS]; exact .inr h
  have s4 : S w.heap.size := by rw [← hS]; exact .inl rfl
  clear hS
  obtain ⟨W2, hW2⟩ : ∃ W2, (((w.alloc (.cells #[.slice none 0 0] 59)).alloc (.cells #[.slice (some ⟨db, do_, none⟩) (8 * k) dc] 28)).alloc (.cells #[.int .i64 8] 3)) = W2 := ⟨_, rfl⟩
  have hsz : W2.heap.size = w.heap.size + 3 := by rw [← hW2]; simp
  rw [hW2] at bS2 bN bO2 hB0 ⊢
  clear hW2 bO bS
  refine wpIn_rangeFunc_ownG hro h1 (gf := 129) (lb := #[.pointer (some ⟨w.heap.size + 1, 0, none⟩), .pointer (some ⟨w.heap.size + 1 + 1, 0, none⟩)]) rfl h129 (enters_of Try.func129 (by kernel_rfl) rfl)
    (chunk_stops F (n - 1) h129 hro (by omega) (w.heap.size + 1) (w.heap.size + 1 + 1) db do_ dc k hk hcap S s1 s2 _ bS2.cell bN.cell (by omega) (by omega)) (fun h k => Mod.trans h k) (modK_b (fun b hb => s3 b (by omega))) (Below.refl _ _) (fun _ => rfl)
    (fun pre W => (∃ v, Boxed W w.heap.size 59 v ∧ W.ownsRow (w.heap.size + 3) tBytes 1 v pre.length (pre.map (piece db do_)) ∧ True) ∧ Below w.heap.size W2 W)
    (fun _ _ _ => False)
    (OwnFrom.and (Own.from (holdsRow_own (w.heap.size + 3) w.heap.size 59 tBytes 1 (fun pre : List Nat => pre.length) (fun pre : List Nat => pre.map (piece db do_)) (fun _ _ => True)) _) (ownFrom_below (w₀ := W2) (B := W2.heap.size) (by omega) (by omega)))
    (fun _ _ _ _ _ hs _ _ => hs)
    ⟨⟨_, bO2, World.ownsRow_nil _ _ _ _, trivial⟩, Below.refl _ _⟩
    (fun x => { tmps := #[.slice (some ⟨db, do_, none⟩) (8 * k) dc, undef, .slice none 0 0, .pointer (some ⟨w.heap.size, 0, none⟩), .slice (some ⟨db, do_ + 8 * x, none⟩) 8 8, .slice (some ⟨db, do_, none⟩) (8 * k) dc, .func (.func 129) #[] #[.pointer (some ⟨w.heap.size + 1, 0, none⟩), .pointer (some ⟨w.heap.size + 1 + 1, 0, none⟩)], .slice (some ⟨db, do_ + 8 * x, none⟩) 8 8, undef, undef, undef, undef, undef], defers := [] }) ?assign ?body ?done ?stop
  case assign =>
    intro l x W K hK
    gi_wp2
    exact hK
  case body =>
    rintro l pre x W ⟨⟨v, hv, hrow, _⟩, hB⟩ hlt
    have hc := hv.cell
    have hBs := hB.size
    gi_wp2_with (gi_at_builtin; refine wpListIn_append_own _ rfl _ _ 59 rfl (w.heap.size + 3) tBytes i0 (.slice none 0 0) 1 24 Try.underlying59 hi hz0 hz1 hz2 rfl (by decide) _ _ _ rfl (hrow.alloc _) ⟨W.heap.size, 0, none⟩ 1 1 [.slice (some ⟨db, do_ + 8 * x, none⟩) 8 8] rfl rfl (cell_one_new _ _ _) (by simp [Value.oneCell']) (by unfold maxLen; omega) (by omega) (by simp; omega) ?_; intro v' w1 hown' hgrow _; obtain ⟨g', cap', rfl⟩ := ownsRow_succ hown'; obtain ⟨hv1, hv2, hr2, hk2, hb2⟩ := hv.appended (by decide) (own_le hrow (by omega)) (by omega) (Nat.le_refl _) (own_le hown' (by omega)) hgrow; have hc1 := hv1.cell; have hf1 := hv1.frozen)
    have hmW : Mod S W (w1.setCell ⟨w.heap.size, 0, none⟩ (.slice (some ⟨g', 0, none⟩) (pre.length + 1) cap')) :=
      (((Mod.refl S W).alloc _).grown hgrow (fun k e _ => s3 k (by have := (hrow.lt k e).1; omega))).setCell (p := ⟨w.heap.size, 0, none⟩) (fun _ => s4) _
    exact ⟨hk2.from _, hmW, ⟨_, hv2, by simpa [piece] using hown'.kept (grownBy_setCell' w1 w.heap.size _) (.inr (hv1.not_row (by decide) hown').symm), trivial⟩, hB.trans hb2⟩
  case done =>
    rintro D ys W hD rfl ⟨⟨v, hv, hrow, _⟩, hB⟩ hK
    have hc := hv.cell
    gi_wp2
    refine ⟨by simp, .inl ⟨_, _, rfl, run_takeDeferred hK, ?_⟩⟩
    rw [List.length_range] at hrow
    exact ⟨_, results_tmp rfl _ _ _, v, rfl, own_le (ownsRow_putObj hrow _ hK rfl) (by omega), (hB0.trans hB).trans (belowK_b (w := w) (Nat.le_refl _) W D _ _ (by omega) hK rfl rfl)⟩
  case stop =>
    rintro D c pre W _ _ h _
    exact h.elim
end Go.Proofs.Fl

namespace Go.Proofs.Fl
open Go.RowKit

theorem parts_any {S : Nat → Prop} {dv : Value} {d : Bytes} {w : World} (k : Nat) (hk1 : 1 ≤ k) (hk : k ≤ 4) (hD : Bs w S dv d) (hd : d.length = 8 * k) :
    Calls Try.prog 119 #[dv] w fun e w' => ∃ v, e = .returned v ∧ Tb w' (fun _ => True) v (chunkK d k) ∧ Below w.heap.size w w' := by
  obtain ⟨db, do_, dc, rfl, _, hdb, _⟩ := hD.cellAt (by omega)
  have hcap := hD.cap
  rw [hd] at hD hcap ⊢
  refine (callsIn_wide (n := 3)).1 ?_
  refine (parts_in Fence.wide 3 trivial trivial trivial rfl (by decide) db do_ dc k hk hcap w).mono ?_
  rintro e w' ⟨v, rfl, ho, hb⟩
  refine ⟨v, rfl, ?_, hb⟩
  refine Tb.of_own _ ho (fun _ _ => trivial) (chunkK_length d k) (fun i hi => ?_)
  have e1 : ((List.range k).map (piece db do_)).getD i undef = piece db do_ i := by simp [List.getD_eq_getElem?_getD, hi]
  have e2 : (chunkK d k).getD i [] = (d.drop (8 * i)).take 8 := by simp [chunkK, List.getD_eq_getElem?_getD, hi]
  rw [e1, e2]
  have hx := (((hD.below hb).mono (T := fun _ => True) (fun _ _ _ => trivial)).cut (8 * i) 8 (by omega))
  obtain ⟨ao, c, e3, h1, h2, h3⟩ := hx
  have hl : ((d.drop (8 * i)).take 8).length = 8 := by rw [List.length_take, List.length_drop]; omega
  rw [hl] at e3 h1 h3
  injection e3 with e3 _ e4
  subst e3
  rcases h3 with ⟨h3, _⟩ | ⟨b, o, h3, h4, h5, h6⟩
  · cases h3
  · injection h3 with h3
    injection h3 with h3 h3'
    subst h3; subst h3'
    exact ⟨_, 8, by rw [hl]; rfl, by rw [hl]; exact Nat.le_refl _, by unfold maxLen; omega, .inr ⟨db, do_ + 8 * i, rfl, trivial, h5, by rw [hl]; exact h6⟩⟩

set_option maxHeartbeats 1000000 in
set_option maxRecDepth 100000 in
/-- rs.Encode, of data that fits. -/
theorem encode_any {S : Nat → Prop} {dv : Value} {d : Bytes} {w : World} (k m : Nat) (hk1 : 1 ≤ k) (hk : k ≤ 4) (hm : m ≤ 3) (hD : Bs w S dv d) (hd : d.length = 8 * k) :
    Calls Try.prog 91 #[.int .i64 k, .int .i64 m, dv] w fun e w' => ∃ v, e = .returned (.tuple #[v, .int .i64 0]) ∧ TabO w' w.heap.size (Fresh w) v (rencM k m d) ∧ Below w.heap.size w w' := by
  obtain ⟨dao, dc, rfl⟩ := hD.shape
  rw [hd] at hD ⊢
  have HD := Lib.hid hD; have HL := Lib.hid hd
  have hcode := code_any k m hk1 hk hm w
  have HC := Lib.hid hcode
  have hnil := fun (w : World) (a : Option Addr) (n c : Nat) => Lib.run_eql_slice_nil (P := Try.prog) w _ _ a n c 0 0 Try.underlying59
  have hmul : wrap64 ((k : Int) * 8) = ((8 * k : Nat) : Int) := by unfold wrap64; omega
  clear hcode hd hD
  go_enter Try.func91, Try.ntmps91
  go_wp2_with (fail)
  refine HC.out.mono ?_
  rintro e w1 ⟨v1, rfl, _, ht1, hb1⟩
  have hcl : (codeM k m).length = k + m := codeM_length k m
  have hT1 : Tb w1 (fun _ => True) v1 (codeM k m) := ht1.toTb (fun _ _ => trivial) (fun _ _ => trivial)
  obtain ⟨cb, co, cc, rfl, _, hcb, _⟩ := hT1.cellAt (by omega)
  have HT1 := Lib.hid hT1; have HB1 := Lib.hid hb1
  clear ht1 hT1 hb1 HC hcl
  go_wp2_with (fail)
  refine (parts_any k hk1 hk (HD.out.below HB1.out) HL.out).mono ?_
  rintro e w2 ⟨v2, rfl, hT2, hb2⟩
  have hcl : (codeM k m).length = k + m := codeM_length k m
  have hfit : Fits (codeM k m) (chunkK d k) 8 := ⟨by omega, by omega, by rw [chunkK_length]; omega, by rw [chunkK_length]; omega, by omega, fun i hi => by
    rw [chunkK_length]
    rw [hcl] at hi
    rw [codeM_get _ _ _ hi, rowC_length], fun i hi => by rw [chunkK_length] at hi; exact chunkK_row d k i hi HL.out⟩
  have htm := times_any (HT1.out.below hb2) hT2 8 hfit
  have HTM := Lib.hid htm
  have HB2 := Lib.hid (HB1.out.trans (hb2.mono HB1.out.size))
  obtain ⟨ao2, c2, rfl⟩ := hT2.shape
  clear htm hfit hT2 hb2 hcl
  go_wp2_with (fail)
  refine HTM.out.mono ?_
  rintro e w3 ⟨v3, rfl, ht3, hb3⟩
  have hb03 := HB2.out.trans (hb3.mono HB2.out.size)
  have hs2 := HB2.out.size
  have ht4 : TabO w3 w.heap.size (Fresh w) v3 (rencM k m d) := by
    rw [renc_code]; exact ht3.mono hs2 (fun b h => Nat.le_trans hs2 h)
  have HT4 := Lib.hid ht4; have HB3 := Lib.hid hb03
  obtain ⟨ao3, c3, rfl⟩ := ht4.shape
  clear ht3 ht4 hb3 hb03 HTM
  go_wp2
  go_ret2
  exact ⟨_, rfl, HT4.out, HB3.out⟩
end Go.Proofs.Fl

namespace Go.Proofs.Fl
open Go.RowKit

theorem flatten_len (l : List Bytes) (h : ∀ i, i < l.length → (l.getD i []).length = 8) : l.flatten.length = 8 * l.length := by
  induction l with
  | nil => rfl
  | cons x l ih =>
    have h0 := h 0 (by simp)
    have h1 := ih fun i hi => by
      have := h (i + 1) (by simp; omega)
      simpa using this
    have h0' : x.length = 8 := by simpa using h0
    rw [List.flatten_cons, List.length_append, h1, h0', List.length_cons]; omega
theorem decM_len (sh : List Bytes) (k m : Nat) (hk1 : 1 ≤ k) (h8 : ∀ i, i < k + m → (sh.getD i []).length = 0 ∨ (sh.getD i []).length = 8) (h : (decM k m sh).2 = 0) : (decM k m sh).1.length = 8 * k := by
  have hle := selB_le sh k (k + m)
  unfold decM at h ⊢
  by_cases hs : (selB sh k (k + m)).length < k
  · rw [if_pos hs] at h; cases h
  · rw [if_neg hs]
    have hl : (selB sh k (k + m)).length = k := by omega
    have hrow : ((((selB sh k (k + m)).map fun i => sh.getD i []).getD 0 []).length) = 8 := by
      rw [map_get _ _ _ (by omega)]
      have hm := selB_mem sh k (k + m) ((selB sh k (k + m)).getD 0 0) (by rw [List.getD_eq_getElem?_getD, List.getElem?_eq_getElem (by omega), Option.getD_some]; exact List.getElem_mem _)
      have := h8 _ hm.1
      have := hm.2
      omega
    show (timesM _ _).flatten.length = 8 * k
    rw [flatten_len _ (fun i hi => by rw [timesM_length] at hi; rw [timesM_row _ _ i hi, hrow]), timesM_length, invM_length, List.length_map, hl]
theorem decM_err (sh : List Bytes) (k m : Nat) : (decM k m sh).2 = 0 ∨ (decM k m sh).2 = 8 := by
  unfold decM; split
  · exact .inr rfl
  · exact .inl rfl
def rebM (k m : Nat) (sh : List Bytes) (a : Int) : Bytes × Nat :=
  if (decM k m sh).2 ≠ 0 then ([], (decM k m sh).2) else if a < 0 ∨ (k : Int) + m ≤ a then ([], 1) else ((rencM k m (decM k m sh).1).getD a.toNat [], 0)

set_option maxHeartbeats 1000000 in
set_option maxRecDepth 100000 in
/-- rs.Rebuild. -/
theorem rebuild_any {S : Nat → Prop} {v : Value} {sh : List Bytes} {w : World} (k m : Nat) (hk1 : 1 ≤ k) (hk : k ≤ 4) (hm : m ≤ 3) (hT : Tb w S v sh) (hn : sh.length = k + m) (h8 : ∀ i, i < k + m → (sh.getD i []).length = 0 ∨ (sh.getD i []).length = 8) (a : Int) :
    Calls Try.prog 50 #[.int .i64 k, .int .i64 m, v, .int .i64 a] w fun e w' => ∃ r, e = .returned (.tuple #[r, .int .i64 (rebM k m sh a).2]) ∧ Bs w' (Fresh w) r (rebM k m sh a).1 ∧ Below w.heap.size w w' := by
  have hdec := decode_any k m hk1 hk hm hT hn h8
  have hlen := decM_len sh k m hk1 h8
  have herr := decM_err sh k m
  have hr : rebM k m sh a = if (decM k m sh).2 ≠ 0 then ([], (decM k m sh).2) else if a < 0 ∨ (k : Int) + m ≤ a then ([], 1) else ((rencM k m (decM k m sh).1).getD a.toNat [], 0) := rfl
  generalize rebM k m sh a = R at *
  generalize decM k m sh = D at *
  obtain ⟨dd, de⟩ := D
  simp only at hlen herr hr hdec
  obtain ⟨tao, tc, rfl⟩ := hT.shape
  rw [hn] at hdec ⊢
  have HD := Lib.hid hdec
  clear hdec hT h8 hn
  rcases herr with rfl | rfl
  · rw [if_neg (by decide)] at hr
    have hl := hlen rfl
    by_cases h0 : a < 0
    · rw [if_pos (.inl h0)] at hr
      subst hr
      clear hlen hl
      go_enter Try.func50, Try.ntmps50
      go_wp2_with (fail)
      refine HD.out.mono ?_
      rintro e w1 ⟨v1, rfl, hv1, hb1⟩
      obtain ⟨ao1, c1, rfl⟩ := hv1.shape
      have HB := Lib.hid hb1
      clear hv1 hb1 HD
      go_wp2
      go_ret2
      exact ⟨_, rfl, Bs.nil _ _, HB.out⟩
    · by_cases h1 : (k : Int) + m ≤ a
      · rw [if_pos (.inr h1)] at hr
        subst hr
        clear hlen hl
        go_enter Try.func50, Try.ntmps50
        go_wp2_with (fail)
        refine HD.out.mono ?_
        rintro e w1 ⟨v1, rfl, hv1, hb1⟩
        obtain ⟨ao1, c1, rfl⟩ := hv1.shape
        have HB := Lib.hid hb1
        clear hv1 hb1 HD
        go_wp2
        go_ret2
        exact ⟨_, rfl, Bs.nil _ _, HB.out⟩
      · rw [if_neg (by rintro (h | h); exact h0 h; exact h1 h)] at hr
        subst hr
        obtain ⟨j, rfl⟩ : ∃ j : Nat, a = j := ⟨a.toNat, by omega⟩
        have hj : j < k + m := by omega
        have ej : ((j : Int)).toNat = j := rfl
        rw [ej]
        have HL := Lib.hid hl
        have hrl := renc_length k m dd
        have hr8 := renc_row k m dd hk1 hl j hj
        clear hlen hl ej
        go_enter Try.func50, Try.ntmps50
        go_wp2_with (fail)
        refine HD.out.mono ?_
        rintro e w1 ⟨v1, rfl, hv1, hb1⟩
        have henc := encode_any k m hk1 hk hm hv1 HL.out
        obtain ⟨ao1, c1, rfl⟩ := hv1.shape
        have HB := Lib.hid hb1; have HE := Lib.hid henc
        clear hv1 hb1 HD henc
        go_wp2_with (fail)
        refine HE.out.mono ?_
        rintro e w2 ⟨v2, rfl, ht2, hb2⟩
        have hs1 := HB.out.size
        have hT2 : Tb w2 (Fresh w) v2 (rencM k m dd) := ht2.toTb (fun b h => Nat.le_trans hs1 h) (fun b h => Nat.le_trans hs1 h)
        obtain ⟨tb, to, tcc, rfl, _, htb, _, hrow⟩ := hT2.cellAt (by omega)
        obtain ⟨ra, rc, hcell, hB⟩ := hrow j (by omega)
        rw [hr8] at hcell hB
        clear hr8
        have HBW := Lib.hid (HB.out.trans (hb2.mono hs1)); have HBB := Lib.hid hB
        rw [hrl]
        have hji : (j : Int) < (k : Int) + (m : Int) := by omega
        clear hrow hT2 ht2 hb2 hB HE hrl
        go_wp2
        go_ret2
        exact ⟨_, rfl, HBB.out, HBW.out⟩
  · rw [if_pos (by decide)] at hr
    subst hr
    clear hlen
    go_enter Try.func50, Try.ntmps50
    go_wp2_with (fail)
    refine HD.out.mono ?_
    rintro e w1 ⟨v1, rfl, hv1, hb1⟩
    obtain ⟨ao1, c1, rfl⟩ := hv1.shape
    have HB := Lib.hid hb1
    clear hv1 hb1 HD
    go_wp2
    go_ret2
    exact ⟨_, rfl, Bs.nil _ _, HB.out⟩

def oneM (k m : Nat) (pm : PM) (id : Int) (locs : List Int) (a : Int) : Bytes × Nat := rebM k m (gatherK pm id locs locs.length) a
set_option maxHeartbeats 400000 in
set_option maxRecDepth 100000 in
/-- shard.One, of a stripe with as many places as it should. -/
theorem one_any {w0 w : World} {S : Nat → Prop} {pb : Nat} {pm : PM} (k m : Nat) (hk1 : 1 ≤ k) (hk : k ≤ 4) (hm : m ≤ 3) (h : PoolL w0 w pb pm) (hc : pm.calm) (id ep : Int) (lv : Value) (locs : List Int) (hL : Ns w S lv locs) (hn : locs.length = k + m) (a : Int) :
    Calls Try.prog 49 #[.pointer (some ⟨pb, 0, none⟩), .int .i64 k, .int .i64 m, stripeV id ep lv, .int .i64 a] w fun e w' => ∃ r, e = .returned (.tuple #[r, .int .i64 (oneM k m pm id locs a).2]) ∧ Bs w' (Fresh w) r (oneM k m pm id locs a).1 ∧ Below w.heap.size w w' := by
  have hbx : Below w.heap.size w (w.alloc (.cells #[.int .i64 id, .int .i64 ep, lv] 67)) := (Below.refl _ _).alloc (Nat.le_refl _) _
  have hg := gather_any (h.ext hbx) hc id ep lv locs (hL.kept (Mod.of_below (fun _ => False) hbx) (fun _ _ _ h => h)) (by omega)
  obtain ⟨lao, lc, rfl, _⟩ := hL.open_
  have HG := Lib.hid hg
  have hnm : (locs.length : Int) = (k : Int) + (m : Int) := by omega
  have HN := Lib.hid hn
  clear hn
  unfold stripeV at *
  clear hg h hL hc
  go_enter Try.func49, Try.ntmps49
  go_wp2_with (fail)
  refine HG.out.mono ?_
  rintro e w1 ⟨v1, rfl, ht, hb1⟩
  have hT : Tb w1 (fun _ => True) v1 (gatherK pm id locs locs.length) := ht.toTb (fun _ _ => trivial) (fun _ _ => trivial)
  have hd := rebuild_any k m hk1 hk hm hT (by rw [gatherK_length, HN.out]) (fun i hi => by rw [gatherK_get _ _ _ _ _ (by rw [HN.out]; exact hi)]; exact shardOf_len _ _ _ _) a
  have HD := Lib.hid hd
  obtain ⟨ao1, kc1, rfl⟩ := hT.shape
  clear hd hT ht
  go_wp2_with (fail)
  refine HD.out.mono ?_
  rintro e w2 ⟨r, rfl, hB, hb2⟩
  have hbw1 : Below w.heap.size w w1 := hbx.trans (hb1.mono hbx.size)
  have hbw2 : Below w.heap.size w w2 := hbw1.trans (hb2.mono hbw1.size)
  have hB2 := hB.mono (T := Fresh w) (fun b _ h => Nat.le_trans hbw1.size h)
  have hB3 : Bs w2 (Fresh w) r (oneM k m pm id locs a).1 := hB2
  have he : (rebM k m (gatherK pm id locs locs.length) a).2 = (oneM k m pm id locs a).2 := rfl
  rw [he]
  obtain ⟨r1, r2, hrr⟩ : ∃ r1 r2, oneM k m pm id locs a = (r1, r2) := ⟨_, _, rfl⟩
  rw [hrr] at hB3 ⊢
  have HRR := Lib.hid hrr
  clear hrr
  have HB := Lib.hid hB3; have HBW := Lib.hid hbw2
  obtain ⟨ao2, kc2, rfl⟩ := hB3.shape
  clear hB hB2 hB3 hbw1 hbw2 hb1 hb2 he
  go_wp2
  go_ret2
  rw [HRR.out]
  exact ⟨_, rfl, HB.out, HBW.out⟩
end Go.Proofs.Fl

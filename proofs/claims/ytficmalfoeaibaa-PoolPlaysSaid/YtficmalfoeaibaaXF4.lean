import Derived.Test.YtficmalfoeaibaaXF2toF3
import Derived.Test.YtficmalfoeaibaaXG6
import Derived.StillTailTactics
namespace Go.Proofs.Fl
open Go.RowKit

/-! ### the reference's product of two tables -/
def dotK (r : Bytes) (rb : List Bytes) (j : Nat) : Nat → UInt8
  | 0 => 0
  | k + 1 => dotK r rb j k ^^^ rmul (r.getD k 0) ((rb.getD k []).getD j 0)
def rowT (r : Bytes) (rb : List Bytes) (c J k : Nat) : Bytes := (List.range c).map fun j => if j < J then dotK r rb j rb.length else if j = J then dotK r rb j k else 0
theorem rowT_length (r : Bytes) (rb : List Bytes) (c J k : Nat) : (rowT r rb c J k).length = c := by simp [rowT]
theorem rowT_get (r : Bytes) (rb : List Bytes) (c J k j : Nat) (h : j < c) : (rowT r rb c J k).getD j 0 = if j < J then dotK r rb j rb.length else if j = J then dotK r rb j k else 0 := by
  simp [rowT, List.getD_eq_getElem?_getD, h]
theorem bytes_ext {a b : Bytes} (hl : a.length = b.length) (h : ∀ i, i < a.length → a.getD i 0 = b.getD i 0) : a = b := by
  apply List.ext_getElem hl
  intro i h1 h2
  have := h i h1
  simpa [List.getD_eq_getElem?_getD, List.getElem?_eq_getElem h1, List.getElem?_eq_getElem h2] using this
theorem rowT_step (r : Bytes) (rb : List Bytes) (c J k : Nat) (h : J < c) : (rowT r rb c J k).set J (dotK r rb J (k + 1)) = rowT r rb c J (k + 1) := by
  apply bytes_ext
  · rw [List.length_set, rowT_length, rowT_length]
  · intro i hi
    rw [List.length_set, rowT_length] at hi
    by_cases e : J = i
    · subst e
      rw [getD_set_eq _ _ _ _ (by rw [rowT_length]; exact h), rowT_get _ _ _ _ _ _ h, if_neg (by omega), if_pos rfl]
    · rw [getD_set_ne _ _ _ _ _ e, rowT_get _ _ _ _ _ _ hi, rowT_get _ _ _ _ _ _ hi]
      by_cases h1 : i < J
      · rw [if_pos h1, if_pos h1]
      · rw [if_neg h1, if_neg h1, if_neg (Ne.symm e), if_neg (Ne.symm e)]
theorem rowT_next (r : Bytes) (rb : List Bytes) (c J : Nat) : rowT r rb c J rb.length = rowT r rb c (J + 1) 0 := by
  unfold rowT
  apply List.map_congr_left
  intro j _
  by_cases h1 : j < J
  · rw [if_pos h1, if_pos (by omega)]
  · rw [if_neg h1]
    by_cases h2 : j = J
    · rw [if_pos h2, if_pos (by omega)]
    · rw [if_neg h2, if_neg (by omega)]
      split <;> rfl
theorem rowT_zero (r : Bytes) (rb : List Bytes) (c : Nat) : rowT r rb c 0 0 = List.replicate c 0 := by
  apply bytes_ext
  · rw [rowT_length, List.length_replicate]
  · intro i hi
    rw [rowT_length] at hi
    rw [rowT_get _ _ _ _ _ _ hi, if_neg (by omega)]
    have : (List.replicate c (0 : UInt8)).getD i 0 = 0 := by simp [List.getD_eq_getElem?_getD, hi]
    rw [this]
    split <;> rfl
def rowR (r : Bytes) (rb : List Bytes) (c : Nat) : Bytes := rowT r rb c c 0
def rtimesK (ra rb : List Bytes) (k : Nat) : List Bytes := (List.range k).map fun i => rowR (ra.getD i []) rb (rb.getD 0 []).length
theorem rtimesK_succ (ra rb : List Bytes) (k : Nat) : rtimesK ra rb (k + 1) = rtimesK ra rb k ++ [rowR (ra.getD k []) rb (rb.getD 0 []).length] := by simp [rtimesK, List.range_succ]
theorem rtimesK_length (ra rb : List Bytes) (k : Nat) : (rtimesK ra rb k).length = k := by simp [rtimesK]

/-- One cell of the product: what the three loops' innermost region does. -/
theorem own_cellAt {w : World} {base g c : Nat} {l : Bytes} (h : w.ownsRow base tU8 1 (.slice (some ⟨g, 0, none⟩) c c) c (u8s l)) (hl : l.length = c) (j : Nat) (hj : j < c) : w.cell? ⟨g, j, none⟩ = some (.int .u8 ((l.getD j 0).toNat : Int)) := by
  rw [h.cellAt j (by omega), u8s_at _ _ (by omega)]

set_option maxHeartbeats 4000000 in
set_option maxRecDepth 100000 in
theorem rtimes_any {S T : Nat → Prop} {va vb : Value} {ra rb : List Bytes} {w : World} (hA : Tb w S va ra) (hB : Tb w T vb rb) (c : Nat) (hF : Fits ra rb c) :
    Calls Try.prog 95 #[va, vb] w fun e w' => ∃ v, e = .returned v ∧ TabO w' w.heap.size (Fresh w) v (rtimesK ra rb ra.length) ∧ Below w.heap.size w w' := by
  obtain ⟨ba, oa, ka, rfl, sa, bwa, hka, cella⟩ := hA.cellAt hF.a0
  obtain ⟨bb, ob, kb, rfl, sb, bwb, hkb, cellb⟩ := hB.cellAt hF.b0
  obtain ⟨bo0, d0, y0, _⟩ := cellb 0 hF.b0
  rw [hF.cb 0 hF.b0] at y0
  have e00 : (rb.getD 0 []).length = c := hF.cb 0 hF.b0
  have hbn1 := hF.bn; have han1 := hF.an; have hc1 := hF.cn
  have hra : (0 : Int) < (ra.length : Int) := by have := hF.a0; omega
  have hrb : (0 : Int) < (rb.length : Int) := by have := hF.b0; omega
  obtain ⟨i0, hi, hz0, hz1, hz2⟩ := info_parts E28.info
  have HI := Lib.hid hi; have HZ0 := Lib.hid hz0; have HZ1 := Lib.hid hz1; have HZ2 := Lib.hid hz2
  have HCA := Lib.hid cella; have HCB := Lib.hid cellb; have HFI := Lib.hid hF; have HE0 := Lib.hid e00
  clear hi hz0 hz1 hz2 cella cellb hF e00 hA hB
  rw [Nat.add_zero] at y0
  go_enter Try.func95, Try.ntmps95
  go_wp2
  go_loopw [5, 6] (fun v i wr => ∃ k : Nat, k ≤ ra.length ∧ i = .int .i64 k ∧ TabO wr w.heap.size (Fresh w) v (rtimesK ra rb k) ∧ Below w.heap.size w wr)
    (fun _ i _ => ra.length - (intOf i).toNat)
  case atStart => exact ⟨0, by omega, rfl, TabO.nil _ _ _, Below.refl _ _⟩
  case round =>
    obtain ⟨k, hk, rfl, ht, hbr⟩ := hrel
    obtain ⟨wa, hwa⟩ : ∃ wa, wa = wr := ⟨_, rfl⟩
    subst hwa
    obtain ⟨tao, tc, rfl⟩ := ht.shape
    have HT := Lib.hid ht
    clear ht
    by_cases hlt : k < ra.length
    · obtain ⟨ak, ck, ca1, hAk⟩ := HCA.out k hlt
      have hlk := HFI.out.ca k hlt
      rw [hlk] at ca1 hAk
      have cb2 := (hbr.cell (p := ⟨bb, ob, none⟩) bwb).trans y0
      have hsu := rtimesK_succ ra rb k
      rw [HE0.out] at hsu
      obtain ⟨rk, hrk⟩ : ∃ rk, ra.getD k [] = rk := ⟨_, rfl⟩
      rw [hrk] at hAk hlk hsu
      have HAK := Lib.hid hAk; have HSU := Lib.hid hsu
      clear hAk hsu hrk
      go_wp2_with (at_make; refine wpList_make_full _ rfl _ _ _ rfl wa.heap.size _ i0 _ 1 Try.underlying28 HI.out HZ0.out HZ1.out .i64 .i64 _ _ c rfl rfl rfl rfl (by rw [HZ2.out]; omega) (by unfold maxLen; omega) (Nat.le_refl _) ?_)
      intro w3 hown hg3
      have hb3 : Below wa.heap.size wa w3 := (Below.refl _ _).grown hg3 (Nat.le_refl _) (fun k h => by cases h)
      rw [toList_madeCells_one, u8s_zeros, ← rowT_zero rk rb c] at hown
      clear cb2
      go_wp2
      go_loopw [8] (fun i wr => ∃ j : Nat, j ≤ c ∧ i = .int .i64 j ∧ wr.ownsRow wa.heap.size tU8 1 (.slice (some ⟨wa.heap.size, 0, none⟩) c c) c (u8s (rowT rk rb c j 0)) ∧ Below wa.heap.size wa wr)
        (fun i _ => c - (intOf i).toNat)
      case atStart => exact ⟨0, by omega, rfl, hown, hb3⟩
      case round =>
        obtain ⟨j, hj, rfl, ho, hbq⟩ := hrel
        clear hb3 hown hg3
        by_cases hltj : j < c
        · go_wp2
          go_loopw [9] (fun i wr => ∃ n : Nat, n ≤ rb.length ∧ i = .int .i64 n ∧ wr.ownsRow wa.heap.size tU8 1 (.slice (some ⟨wa.heap.size, 0, none⟩) c c) c (u8s (rowT rk rb c j n)) ∧ Below wa.heap.size wa wr)
            (fun i _ => rb.length - (intOf i).toNat)
          case atStart => exact ⟨0, by omega, rfl, ho, hbq⟩
          case round =>
            clear ho hbq
            obtain ⟨n, hn, rfl, ho, hbq⟩ := hrel
            obtain ⟨wz, hz⟩ : ∃ wz, ({ heap := wr.heap, tape := wr.tape, drawn := wr.drawn + 1, os := wr.os, output := wr.output } : World) = wz := ⟨_, rfl⟩
            have hoz : wz.ownsRow wa.heap.size tU8 1 (.slice (some ⟨wa.heap.size, 0, none⟩) c c) c (u8s (rowT rk rb c j n)) := by rw [← hz]; exact own_drew ho
            have hbz : Below wa.heap.size wa wz := by rw [← hz]; exact hbq.drew
            have hbw : Below w.heap.size w wz := hbr.trans (hbz.mono hbr.size)
            by_cases hltn : n < rb.length
            · obtain ⟨b1, o1, c1, e1, s1, bw1, cell1⟩ := HAK.out.cellAt (by rw [hlk]; omega)
              rw [hlk] at e1 cell1
              injection e1 with e1 _ e2
              subst e1; subst e2
              obtain ⟨bo, bc, cb1, hBn⟩ := HCB.out n hltn
              rw [HFI.out.cb n hltn] at cb1 hBn
              obtain ⟨b2, o2, c2, e3, s2, bw2, cell2⟩ := hBn.cellAt (by rw [HFI.out.cb n hltn]; omega)
              rw [HFI.out.cb n hltn] at e3 cell2
              injection e3 with e3 _ e4
              subst e3; subst e4
              have y1 := own_cellAt hoz (rowT_length _ _ _ _ _) j hltj
              rw [rowT_get _ _ _ _ _ _ hltj, if_neg (Nat.lt_irrefl j), if_pos rfl] at y1
              have y1f := hoz.frozenAt j
              have y2 := (hbw.cell (p := ⟨ba, oa + k, none⟩) bwa).trans ca1
              have y3 := (hbw.cell (p := ⟨b1, o1 + n, none⟩) bw1).trans (cell1 n hltn)
              have y4 := (hbw.cell (p := ⟨bb, ob + n, none⟩) bwb).trans cb1
              have y5 := (hbw.cell (p := ⟨b2, o2 + j, none⟩) bw2).trans (cell2 j hltj)
              have hdot : dotK rk rb j (n + 1) = dotK rk rb j n ^^^ rmul (rk.getD n 0) ((rb.getD n []).getD j 0) := rfl
              have st := hoz.stored j (.int .u8 ((dotK rk rb j (n + 1)).toNat : Int))
              rw [u8s_set, rowT_step _ _ _ _ _ hltj, hdot] at st
              have hxx := xor_u8 (dotK rk rb j n) (rmul (rk.getD n 0) ((rb.getD n []).getD j 0))
              rw [UInt8.toNat_xor] at st
              generalize (rb.getD n []).getD j 0 = yv at *
              generalize rk.getD n 0 = xv at *
              generalize dotK rk rb j n = dv at *
              have ST := Lib.hid st
              have k1 : (j : Int) < (c : Int) := by omega
              have k2 : (n : Int) < (rb.length : Int) := by omega
              have k3 : (k : Int) < (ra.length : Int) := by omega
              have hws := hbr.size
              have g1 : ¬ b1 = wa.heap.size := by omega
              have g2 : ¬ b2 = wa.heap.size := by omega
              have g3 : ¬ ba = wa.heap.size := by omega
              have g4 : ¬ bb = wa.heap.size := by omega
              have g5 : ¬ wa.heap.size = b1 := by omega
              have g6 : ¬ wa.heap.size = b2 := by omega
              have g7 : ¬ wa.heap.size = ba := by omega
              have g8 : ¬ wa.heap.size = bb := by omega
              clear hws
              clear st ho hoz cell1 cell2 hBn cb1 hdot
              go_wp2
              refine wp_region_still_tail 21 (by kernel_rfl) (by kernel_rfl) ?_
              simp only [List.take_succ_cons, List.take_zero, List.drop_succ_cons, List.drop_zero]
              rw [hz]
              repeat still_step
              still_call ((rmul_any _ _ _).mono fun _ _ h => ⟨h.1, h.2.symm⟩)
              repeat still_step
              try refine wpStill_nil ?_
              clear hz
              go_wp2
              go_roundw
              case rel => exact ⟨n + 1, by omega, by go_num, ST.out.1, hbz.grown ST.out.2 hbz.size (fun g hg => by cases hg; exact Nat.le_refl _)⟩
              case measure => simp [intOf]; omega
            · obtain rfl : n = rb.length := by omega
              rw [rowT_next] at ho
              have HO := Lib.hid ho
              clear ho
              go_wp2
              go_roundw
              case rel => exact ⟨j + 1, by omega, by go_num, HO.out, hbq⟩
              case measure => simp [intOf]; omega
        · obtain rfl : c = j := by omega
          have hbw : Below w.heap.size w wr := hbr.trans (hbq.mono hbr.size)
          obtain ⟨vs, q1, q2⟩ := HT.out.below hbq
          have hbs : Bs wr (fun b => Fresh w b ∧ (Value.slice tao (rtimesK ra rb k).length tc).ownBlock ≠ some b) (.slice (some ⟨wa.heap.size, 0, none⟩) c c) (rowR rk rb c) := by
            obtain ⟨vs0, p1, _⟩ := HT.out
            have ho' : wr.ownsRow wa.heap.size tU8 1 (.slice (some ⟨wa.heap.size, 0, none⟩) c c) c (u8s (rowR rk rb c)) := ho
            exact Bs.of_own ho' _ (fun b h1 _ => ⟨Nat.le_trans hbr.size h1, fun e => by have := (p1.lt b e).2; omega⟩)
          have Q1 := Lib.hid q1; have Q2 := Lib.hid q2; have HBS := Lib.hid hbs
          clear hbs q1 q2 ho
          go_wp2_with (at_builtin; refine wpList_app_new rfl _ _ _ rfl E59 w.heap.size _ 1 Q1.out rfl rfl rfl (by intro u hu; simp at hu; subst hu; rfl) (by rw [rtimesK_length]; omega) (by decide) hbw.size ?_)
          intro v' w5 hown5 hg5 _
          have ht5 := TabO.snoc Q1.out Q2.out HBS.out hown5 hg5
          rw [← HSU.out] at ht5
          have hb5 := Grew.new hbw hbw.size hg5 (fun g hg => (Q1.out.lt g hg).1)
          obtain ⟨tao5, tc5, rfl⟩ := ht5.shape
          have HT5 := Lib.hid ht5; have HB5 := Lib.hid hb5
          clear ht5 hb5 hg5 hown5
          go_wp2
          go_roundw
          case rel => exact ⟨k + 1, by omega, by go_num, HT5.out, HB5.out⟩
          case measure => simp [intOf]; omega
    · obtain rfl : k = ra.length := by omega
      go_wp2
      go_ret
      exact ⟨_, rfl, HT.out, hbr⟩
end Go.Proofs.Fl

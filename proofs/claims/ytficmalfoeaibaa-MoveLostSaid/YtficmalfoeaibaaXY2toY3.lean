import Derived.Test.YtficmalfoeaibaaXX6toX9
namespace Go.Proofs.Fl
open Go.RowKit

/-! ### MoveLost: the pool -/
def vL (s : Nat) : MV := ⟨2, 2, [3, 2, 1, 0], [4, 5, 6, 7], [0, 1, 2, 3], s / 4, s % 4⟩
theorem vL_ok (s : Nat) : MvOk (vL s) := ⟨by show 1 ≤ 2; decide, by show 2 ≤ 4; decide, by show 2 ≤ 3; decide, rfl, rfl⟩
theorem vL_adv (s : Nat) (h : s < 12) : adv (vL s) = vL (s + 1) := by
  have : s = 0 ∨ s = 1 ∨ s = 2 ∨ s = 3 ∨ s = 4 ∨ s = 5 ∨ s = 6 ∨ s = 7 ∨ s = 8 ∨ s = 9 ∨ s = 10 ∨ s = 11 := by omega
  rcases this with rfl | rfl | rfl | rfl | rfl | rfl | rfl | rfl | rfl | rfl | rfl | rfl <;> rfl
def baseL (d : Bytes) (lack : UInt8) : DrvL := (laidL 4 (rencM 2 2 (fullM 2 d)) lack 0 4).map fun l => (8, fun j => l[j]?)
theorem baseL_len (d : Bytes) (lack : UInt8) : (baseL d lack).length = 4 := by unfold baseL; rw [List.length_map, laidL_length]
def extL (d : Bytes) (s : Nat) : DrvL := (List.range 4).map fun q => (4, if q < s then putF noS 0 (some (33, q, (rencM 2 2 (fullM 2 d)).getD q [])) else noS)
theorem extL_len (d : Bytes) (s : Nat) : (extL d s).length = 4 := by simp [extL]
theorem baseL_get (d : Bytes) (lack : UInt8) (x : DrvL) (j : Nat) (hj : j < 4) : (baseL d lack ++ x).getD (3 - j) (0, noS) = (8, fun i => (if bitB lack j = false then [((33, j, (rencM 2 2 (fullM 2 d)).getD j []) : Shd)] else [])[i]?) := by
  have hl := laidL_length 4 (rencM 2 2 (fullM 2 d)) lack 0 4
  have hg := laidL_get 4 (rencM 2 2 (fullM 2 d)) lack 0 j hj
  rw [laidB0] at hg
  have hlt : 4 - 1 - j < (laidL 4 (rencM 2 2 (fullM 2 d)) lack 0 4).length := by rw [hl]; omega
  rw [show 3 - j = 4 - 1 - j by omega, List.getD_eq_getElem?_getD, List.getElem?_append_left (by rw [baseL_len]; omega)]
  unfold baseL
  rw [List.getElem?_map, List.getElem?_eq_getElem hlt, Option.map_some, Option.getD_some]
  rw [List.getD_eq_getElem?_getD, List.getElem?_eq_getElem hlt, Option.getD_some] at hg
  rw [hg]
theorem extL_get (d : Bytes) (lack : UInt8) (s q : Nat) (hq : q < 4) : (baseL d lack ++ extL d s).getD (4 + q) (0, noS) = (4, if q < s then putF noS 0 (some (33, q, (rencM 2 2 (fullM 2 d)).getD q [])) else noS) := by
  rw [List.getD_eq_getElem?_getD, List.getElem?_append_right (by rw [baseL_len]; omega), baseL_len, show 4 + q - 4 = q by omega]
  unfold extL
  rw [List.getElem?_map, List.getElem?_range hq]; rfl
theorem row22_len (d : Bytes) (q : Nat) (hq : q < 4) : ((rencM 2 2 (fullM 2 d)).getD q []).length = 8 := renc_row 2 2 _ (by decide) (fullM_length 2 (by decide) d) q hq
theorem gatherL {t : Nat} {pm : PM} {d : Bytes} {lack : UInt8} {x : DrvL} (h : PQ t pm (baseL d lack ++ x)) : gatherK pm 33 [3, 2, 1, 0] 4 = (laidM 2 2 d lack 0).2 := by
  have e : (laidM 2 2 d lack 0).2 = (List.range 4).map (haveB (rencM 2 2 (fullM 2 d)) lack 0) := by unfold laidM; rw [laid_have]
  rw [e]
  unfold gatherK
  refine List.map_congr_left fun j hj => ?_
  have hj' := List.mem_range.1 hj
  have hloc : ([3, 2, 1, 0] : List Int).getD j 0 = ((3 - j : Nat) : Int) := by
    have : j = 0 ∨ j = 1 ∨ j = 2 ∨ j = 3 := by omega
    rcases this with rfl | rfl | rfl | rfl <;> rfl
  rw [hloc]
  have hb := baseL_get d lack x j hj'
  have hlen : 3 - j < (baseL d lack ++ x).length := by rw [List.length_append, baseL_len]; omega
  unfold haveB
  by_cases hl : bitB lack j = false
  · rw [if_pos hl] at hb
    have hld : pm.load ((3 - j : Nat) : Int) 33 j = ((rencM 2 2 (fullM 2 d)).getD j [], 0) := h.load (3 - j) hlen (33, j, (rencM 2 2 (fullM 2 d)).getD j []) 8 _ hb 0 (by decide) (by
      unfold findF
      refine firstIn_some (by decide) ?_ (by omega)
      simp) (by rfl)
    rw [shardOf_load hld, row22_len d j hj', hl, bit0]; rfl
  · rw [if_neg hl] at hb
    have hld : pm.load ((3 - j : Nat) : Int) 33 j = ([], 7) := h.load_none (3 - j) hlen 33 j 8 _ hb (by
      unfold findF
      refine firstIn_none fun i _ => by simp)
    have : bitB lack j = true := by simpa using hl
    rw [shardOf_load hld, this]; rfl
def fewL (lack : UInt8) : Nat := ((List.range 4).filter fun i => bitB lack i).length
theorem few_there (lack : UInt8) : thereK lack 0 4 + fewL lack = 4 := by
  have := u8_all (fun l => decide (thereK l 0 4 + fewL l = 4)) (by decide +kernel) lack
  exact of_decide_eq_true this
theorem oneL {t : Nat} {pm : PM} {d : Bytes} {lack : UInt8} {x : DrvL} (h : PQ t pm (baseL d lack ++ x)) (hf : fewL lack ≤ 2) (a : Nat) (ha : a < 4) : oneM 2 2 pm 33 [3, 2, 1, 0] a = ((rencM 2 2 (fullM 2 d)).getD a [], 0) := by
  have := few_there lack
  have hdec := laidM_dec 2 2 (by decide) (by decide) (by decide) d lack 0 (by show 2 ≤ thereK lack 0 4; omega)
  unfold oneM
  rw [show ([3, 2, 1, 0] : List Int).length = 4 from rfl, gatherL h]
  unfold rebM
  rw [hdec, if_neg (by simp), if_neg (by omega)]
  rfl
theorem oneL_lost {t : Nat} {pm : PM} {d : Bytes} {lack : UInt8} {x : DrvL} (h : PQ t pm (baseL d lack ++ x)) (hf : 2 < fewL lack) (a : Nat) : oneM 2 2 pm 33 [3, 2, 1, 0] a = ([], 8) := by
  have hft := few_there lack
  have hdec : decM 2 2 (laidM 2 2 d lack 0).2 = ([], 8) := by
    unfold decM
    rw [if_pos]
    refine Nat.lt_of_le_of_lt (selB_cnt _ _ _) ?_
    have e : ((List.range (2 + 2)).filter fun i => decide (((laidM 2 2 d lack 0).2.getD i []).length ≠ 0)) = (List.range 4).filter fun i => !(bitB lack i || bitB 0 i) := by
      refine List.filter_congr fun i hi => ?_
      have hi' := List.mem_range.1 hi
      rw [laidM_row _ _ _ _ _ _ hi']
      unfold haveB
      cases bitB lack i || bitB 0 i
      · show decide (((rencM 2 2 (fullM 2 d)).getD i []).length ≠ 0) = true
        rw [row22_len d i hi']; rfl
      · rfl
    rw [e]
    show thereK lack 0 4 < 2
    omega
  unfold oneM
  rw [show ([3, 2, 1, 0] : List Int).length = 4 from rfl, gatherL h]
  unfold rebM
  rw [hdec, if_pos (by decide)]
/-- nothing is moved -/
theorem stuckL {t : Nat} {pm : PM} {d : Bytes} {lack : UInt8} {x : DrvL} (h : PQ t pm (baseL d lack ++ x)) (hf : 2 < fewL lack) : doM (vL 0) pm 0 = (8, pm) := by
  have h1 : oneM 2 2 pm 33 [3, 2, 1, 0] 0 = ([], 8) := oneL_lost h hf 0
  show copyM (vL 0) pm 0 = _
  unfold copyM
  show (if (oneM 2 2 pm 33 [3, 2, 1, 0] 0).2 ≠ 0 then ((oneM 2 2 pm 33 [3, 2, 1, 0] 0).2, pm) else _) = _
  rw [h1, if_pos (by decide)]
theorem tgt_get (q : Nat) (hq : q < 4) : ([4, 5, 6, 7] : List Int).getD q 0 = ((4 + q : Nat) : Int) := by
  have : q = 0 ∨ q = 1 ∨ q = 2 ∨ q = 3 := by omega
  rcases this with rfl | rfl | rfl | rfl <;> rfl
theorem loadE {t : Nat} {pm : PM} {d : Bytes} {lack : UInt8} {s q : Nat} (h : PQ t pm (baseL d lack ++ extL d s)) (hq : q < 4) (hs : q < s) : pm.load ((4 + q : Nat) : Int) 33 q = ((rencM 2 2 (fullM 2 d)).getD q [], 0) := by
  have hg := extL_get d lack s q hq
  rw [if_pos hs] at hg
  exact h.load (4 + q) (by rw [List.length_append, baseL_len, extL_len]; omega) (33, q, (rencM 2 2 (fullM 2 d)).getD q []) 4 _ hg 0 (by decide) (by
    unfold findF
    refine firstIn_some (by decide) ?_ (by omega)
    simp [putF]) (by rfl)
/-- one thing after the other -/
theorem stepL {t : Nat} {pm : PM} {d : Bytes} {lack : UInt8} {s : Nat} (h : PQ t pm (baseL d lack ++ extL d s)) (hf : fewL lack ≤ 2) (hs : s < 12) :
    ∃ pm', doM (vL s) pm (s % 4) = (0, pm') ∧ PQ (t + 1) pm' (baseL d lack ++ extL d (s + 1)) := by
  have hq : s % 4 < 4 := Nat.mod_lt _ (by decide)
  have hone := oneL h hf (s % 4) hq
  have hlen : 4 + s % 4 < (baseL d lack ++ extL d s).length := by rw [List.length_append, baseL_len, extL_len]; omega
  have hsame : ∀ s', 4 ≤ s' → extL d s' = extL d 4 := fun s' h' => by
    unfold extL
    refine List.map_congr_left fun q hq => ?_
    have := List.mem_range.1 hq
    rw [if_pos (by omega), if_pos (by omega)]
  have htg := tgt_get (s % 4) hq
  by_cases h0 : s < 4
  · have es : s % 4 = s := Nat.mod_eq_of_lt h0
    rw [es] at hone hlen htg ⊢
    have hg := extL_get d lack s s h0
    rw [if_neg (Nat.lt_irrefl s)] at hg
    obtain ⟨m', e, h2⟩ := h.store (4 + s) hlen (33, s, (rencM 2 2 (fullM 2 d)).getD s []) ⟨by show 33 ≤ 1073741824; decide, by show s ≤ 255; omega, by show ((rencM 2 2 (fullM 2 d)).getD s []).length ≤ 50; rw [row22_len d s h0]; decide⟩ 4 noS hg 0 (by rfl)
    refine ⟨m', ?_, ?_⟩
    · show (if (vL s).phase = 0 then copyM (vL s) pm s else _) = _
      rw [if_pos (show (vL s).phase = 0 from by show s / 4 = 0; omega)]
      unfold copyM
      show (if (oneM 2 2 pm 33 [3, 2, 1, 0] s).2 ≠ 0 then _ else pm.store (([4, 5, 6, 7] : List Int).getD s 0) 33 s (oneM 2 2 pm 33 [3, 2, 1, 0] s).1) = _
      rw [hone, htg]
      exact e
    · have e2 : (baseL d lack ++ extL d s).set (4 + s) (4, putF noS 0 (some (33, s, (rencM 2 2 (fullM 2 d)).getD s []))) = baseL d lack ++ extL d (s + 1) := by
        rw [List.set_append_right _ _ (by rw [baseL_len]; omega), baseL_len, show 4 + s - 4 = s by omega]
        congr 1
        apply List.ext_getElem
        · rw [List.length_set, extL_len, extL_len]
        · intro q h1 h2
          have hq4 : q < 4 := by rw [extL_len] at h2; exact h2
          rw [List.getElem_set]
          simp only [extL, List.getElem_map, List.getElem_range]
          by_cases e : s = q
          · subst e; rw [if_pos rfl, if_pos (by omega)]
          · rw [if_neg e]
            by_cases hc : q < s
            · rw [if_pos hc, if_pos (by omega)]
            · rw [if_neg hc, if_neg (by omega)]
      rw [e2] at h2
      exact h2
  · rw [hsame s (by omega), ← hsame (s + 1) (by omega)] at h
    by_cases h1 : s < 8
    · obtain ⟨m', e, h2⟩ := h.flush (4 + s % 4) (by rw [List.length_append, baseL_len, extL_len]; omega)
      refine ⟨m', ?_, h2.more (by omega)⟩
      show (if (vL s).phase = 0 then _ else if (vL s).phase = 1 then pm.flush (([4, 5, 6, 7] : List Int).getD (s % 4) 0) else _) = _
      rw [if_neg (show ¬ (vL s).phase = 0 from by show ¬ s / 4 = 0; omega), if_pos (show (vL s).phase = 1 from by show s / 4 = 1; omega), htg]
      exact e
    · refine ⟨pm, ?_, h.more (by omega)⟩
      show (if (vL s).phase = 0 then _ else if (vL s).phase = 1 then _ else (verM (vL s) pm (s % 4), pm)) = _
      rw [if_neg (show ¬ (vL s).phase = 0 from by show ¬ s / 4 = 0; omega), if_neg (show ¬ (vL s).phase = 1 from by show ¬ s / 4 = 1; omega)]
      have hld := loadE h hq (by omega)
      have hv : verM (vL s) pm (s % 4) = 0 := by
        show (if (pm.load (([4, 5, 6, 7] : List Int).getD (s % 4) 0) 33 (s % 4 : Nat)).2 ≠ 0 then _ else if (oneM 2 2 pm 33 [3, 2, 1, 0] (s % 4 : Nat)).2 ≠ 0 then _ else if (pm.load (([4, 5, 6, 7] : List Int).getD (s % 4) 0) 33 (s % 4 : Nat)).1 = (oneM 2 2 pm 33 [3, 2, 1, 0] (s % 4 : Nat)).1 then 0 else 12) = 0
        rw [htg, hld, hone, if_neg (by simp), if_neg (by simp), if_pos rfl]
      rw [hv]
end Go.Proofs.Fl

namespace Go.Proofs.Fl
open Go.RowKit

def AddI (B : Nat) (K : Nat → Prop) (pb : Nat) (d : Bytes) (lack : UInt8) (W : World) (i : Nat) (wr : World) : Prop :=
  ∃ pm, PoolF wr B K pb pm ∧ PQ 8 pm (baseL d lack ++ List.replicate i (4, noS)) ∧ Mod (fun b => B ≤ b ∧ ¬ K b) W wr
def LostI (B : Nat) (K : Nat → Prop) (pb xb : Nat) (d : Bytes) (lack : UInt8) (W : World) (i : Nat) (wr : World) : Prop :=
  ∃ pm, PoolF wr B K pb pm ∧ PQ (8 + i) pm (baseL d lack ++ extL d (if fewL lack ≤ 2 then i else 0)) ∧ MoveAt wr K xb (vL (if fewL lack ≤ 2 then i else 0)) ∧ Mod (fun b => b = xb ∨ (B ≤ b ∧ ¬ K b)) W wr
def cntL (lack : UInt8) (j : Nat) : Nat := ((List.range j).filter fun i => bitB lack i).length
theorem cntL_succ (lack : UInt8) (j : Nat) : cntL lack (j + 1) = cntL lack j + if bitB lack j then 1 else 0 := by
  unfold cntL
  rw [List.range_succ, List.filter_append, List.length_append]
  cases h : bitB lack j
  · rw [List.filter_cons_of_neg (by simp [h])]; rfl
  · rw [List.filter_cons_of_pos (by simp [h])]; rfl

set_option maxHeartbeats 6000000 in
set_option maxRecDepth 100000 in
theorem lost_law {dv : Value} {d : Bytes} {w : World} (hD : DatB w (fun b => b < w.heap.size) dv d) (hd0 : d.length ≤ maxLen) (lack : UInt8) :
    Calls Try.prog 13 #[dv, .int .u8 lack.toNat] w fun e w' => e = .returned (.bool true) ∧ Below w.heap.size w w' := by
  have HD := Lib.hid hD
  obtain ⟨dao, dc, rfl⟩ := hD.shape
  clear hD
  have hd0i : (d.length : Int) ≤ 9223372036854775807 := by unfold maxLen at hd0; omega
  by_cases hbig : 100 < d.length
  · have hbi : (100 : Int) < (d.length : Int) := by omega
    clear hd0
    go_enter Try.func13, Try.ntmps13
    go_wp2_with (go_at_call 51; refine (answers18 _).mono ?_; rintro e w1 ⟨rfl, hb1⟩)
    go_ret
    exact ⟨rfl, hb1⟩
  have hbi : ¬ (100 : Int) < (d.length : Int) := by omega
  clear hd0
  go_enter Try.func13, Try.ntmps13
  go_wp2_with (fail)
  refine (laid18_any 2 2 (by decide) (by decide) (by decide) HD.out (by omega) lack 0).mono ?_
  rintro e w2 ⟨pb, lv, tv, K, rfl, hK, hP, hN, hT, hb⟩
  rw [show (2 + 2 : Nat) = 4 from rfl] at *
  have hpq : PQ 8 (laidM 2 2 d lack 0).1 (baseL d lack) := PQ.of (laidM_PH 2 2 (by decide) (by decide) (by decide) d lack 0)
  generalize (laidM 2 2 d lack 0).1 = pm at *
  obtain ⟨lb, lo, lc, rfl, lS, hlbl, _, hlc⟩ := Sv.cellAt hN (by decide)
  rw [show ((locsM 4 4).map (Value.int .i64)).length = 4 from rfl] at *
  obtain ⟨tao, tc, rfl⟩ := hT.shape
  obtain ⟨W, hW⟩ : ∃ W, w2.alloc (.cells #[.int .i64 33, .int .i64 0, .slice (some ⟨lb, lo, none⟩) 4 lc] 67) = W := ⟨_, rfl⟩
  have hbW : Below w2.heap.size w2 W := by rw [← hW]; exact (Below.refl _ _).alloc (Nat.le_refl _) _
  have hcW : W.heap[w2.heap.size]? = some (.cells #[.int .i64 33, .int .i64 0, .slice (some ⟨lb, lo, none⟩) 4 lc] 67 (0, 0)) := by rw [← hW]; exact heap_alloc_new _ _
  have hbs := hb.size
  obtain ⟨K', hK'⟩ : ∃ K' : Nat → Prop, (fun b => K b ∨ (w2.heap.size ≤ b ∧ b < W.heap.size)) = K' := ⟨_, rfl⟩
  have hPW := hP.more hbW
  rw [hK'] at hPW
  have k3 : ∀ b, K' b → b < W.heap.size := fun b h => by
    rw [← hK'] at h
    have := hbW.size
    rcases h with h | h
    · have := hK b h; omega
    · omega
  have ka : ∀ b, K b → K' b := fun b h => by rw [← hK']; exact .inl h
  have k2 : K' w2.heap.size := by rw [← hK']; exact .inr ⟨Nat.le_refl _, blk_lt hcW⟩
  have hNW : Ns W K' (.slice (some ⟨lb, lo, none⟩) 4 lc) (locsM 4 4) := Sv.mono (hN.below hbW) (fun b _ h => ka b h)
  have hbw := hb.trans (hbW.mono hbs)
  have HI0 := Lib.hid (show AddI w.heap.size K' pb d lack W 0 W from ⟨pm, hPW, by simpa using hpq, Mod.refl _ _⟩)
  have HCW := Lib.hid hcW; have HNW := Lib.hid hNW; have HBW := Lib.hid hbw; have HK3 := Lib.hid k3
  have hwW := hbw.size
  clear hcW hNW hbw k3 hK' hPW hbW hK hP hN hT hb hbs ka hlc hpq
  unfold stripeV
  go_wp2_with (fail)
  clear hW
  go_loopw [8] (fun i wr => ∃ j : Nat, j ≤ 4 ∧ i = .int .i64 j ∧ AddI w.heap.size K' pb d lack W j wr) (fun i _ => 4 - (intOf i).toNat)
  case atStart => exact ⟨0, by omega, rfl, HI0.out⟩
  case round =>
    obtain ⟨j, hj, rfl, pm, hP, hpq, hm⟩ := hrel
    have hms := hm.size
    by_cases hlt : j < 4
    · have hlen : pm.list.length = 4 + j := by rw [hpq.len, List.length_append, baseL_len, List.length_replicate]
      have hadd := PF_add hP (fun b h => Nat.lt_of_lt_of_le (HK3.out b h) hms) (Nat.le_trans hwW hms) 4 (by rw [hlen]; omega)
      have hpq2 := hpq.add 4
      rw [List.append_assoc, show (List.replicate j ((4 : Nat), noS) ++ [(clampN 4, noS)]) = List.replicate (j + 1) (4, noS) from by rw [show clampN 4 = 4 from by decide, List.replicate_succ']] at hpq2
      have HADD := Lib.hid hadd; have HPQ2 := Lib.hid hpq2; have HM := Lib.hid hm
      clear hadd hpq2 hm hP hpq hlen
      go_wp2_with (fail)
      refine HADD.out.mono ?_
      rintro e w3 ⟨rfl, hP3, hm3⟩
      have HR := Lib.hid (show AddI w.heap.size K' pb d lack W (j + 1) w3 from ⟨_, hP3, HPQ2.out, HM.out.trans hm3⟩)
      clear hP3 hm3 HADD HPQ2 HM
      go_wp2
      go_roundw
      case rel => exact ⟨j + 1, by omega, by go_num, HR.out⟩
      case measure => simp [intOf]; omega
    · obtain rfl : j = 4 := by omega
      have hc3 := blk_mod hm HCW.out (fun h => h.2 k2)
      have hN3 : Ns wr K' (.slice (some ⟨lb, lo, none⟩) 4 lc) (locsM 4 4) := Sv.kept HNW.out hm (fun b _ h h' => h'.2 h)
      have hb3 := below_mod HBW.out hwW hm (fun b h => h.1)
      have hk3 : ∀ b, K' b → b < wr.heap.size := fun b h => Nat.lt_of_lt_of_le (HK3.out b h) hms
      have HC3 := Lib.hid hc3; have HN3 := Lib.hid hN3; have HB3 := Lib.hid hb3; have HP3 := Lib.hid hP; have HPQ := Lib.hid hpq; have HKR := Lib.hid hk3
      clear hc3 hN3 hb3 hP hpq hm hk3 HCW HNW HBW HI0 HK3 hms
      obtain ⟨w3, hw3⟩ : ∃ w3, w3 = wr := ⟨_, rfl⟩
      subst hw3
      go_wp2
      go_loop [9, 10] (fun n i => ∃ j : Nat, j ≤ 4 ∧ i = .int .i64 j ∧ n = .int .i64 (cntL lack j)) (fun _ i => 4 - (intOf i).toNat)
      case atStart => exact ⟨0, by omega, rfl, rfl⟩
      case round =>
        obtain ⟨j, hj, rfl, rfl⟩ := hrel
        have hcl : cntL lack j ≤ j := by unfold cntL; exact Nat.le_trans (List.length_filter_le _ _) (by rw [List.length_range]; exact Nat.le_refl _)
        by_cases hlt : j < 4
        · have hb1 := bit_int lack j
          have hs := cntL_succ lack j
          cases hbx : bitB lack j with
          | true =>
            rw [hbx, if_pos rfl] at hb1 hs
            have HS := Lib.hid hs
            generalize cntL lack j = cj at *
            clear hs hbx
            go_wp2
            go_round
            case rel => exact ⟨j + 1, by omega, by go_num, by rw [HS.out]; go_num⟩
            case measure => simp [intOf]; omega
          | false =>
            rw [hbx, if_neg (by decide)] at hb1 hs
            have HS := Lib.hid hs
            generalize cntL lack j = cj at *
            clear hs hbx
            go_wp2
            go_round
            case rel => exact ⟨j + 1, by omega, by go_num, by rw [HS.out]; go_num⟩
            case measure => simp [intOf]; omega
        · obtain rfl : j = 4 := by omega
          have hnn : cntL lack 4 = fewL lack := rfl
          rw [hnn] at hcl ⊢
          obtain ⟨nn, hnn2⟩ : ∃ nn, fewL lack = nn := ⟨_, rfl⟩
          rw [hnn2] at hcl ⊢
          have HNN := Lib.hid hnn2
          clear hnn hnn2
          have s0 : w3.cell? ⟨w2.heap.size, 0, none⟩ = some (.int .i64 33) := blk_cell HC3.out rfl
          have s1 : w3.cell? ⟨w2.heap.size, 1, none⟩ = some (.int .i64 0) := blk_cell HC3.out rfl
          have s2 : w3.cell? ⟨w2.heap.size, 2, none⟩ = some (.slice (some ⟨lb, lo, none⟩) 4 lc) := blk_cell HC3.out rfl
          have hbl : Below w3.heap.size w3 (w3.alloc (.cells #[.int .i64 4, .int .i64 5, .int .i64 6, .int .i64 7] 3)) := (Below.refl _ _).alloc (Nat.le_refl _) _
          have HNEW := Lib.hid (movenew_any (w := w3.alloc (.cells #[.int .i64 4, .int .i64 5, .int .i64 6, .int .i64 7] 3)) 2 2 (by decide) (by decide) (Sv.mono (HN3.out.below hbl) (T := fun _ => True) (fun _ _ _ => trivial)) (Sv.mono (Ns.lit w3 3 (0, 0) [4, 5, 6, 7] #[.int .i64 4, .int .i64 5, .int .i64 6, .int .i64 7] rfl (by decide)) (T := fun _ => True) (fun _ _ _ => trivial)) (by decide) (by decide))
          clear hbl
          go_wp2_with (fail)
          refine HNEW.out.mono ?_
          rintro e w4 ⟨xb, rfl, hM, hb4⟩
          have hbl : Below w3.heap.size w3 (w3.alloc (.cells #[.int .i64 4, .int .i64 5, .int .i64 6, .int .i64 7] 3)) := (Below.refl _ _).alloc (Nat.le_refl _) _
          have hxb3 : w3.heap.size ≤ xb := Nat.le_trans hbl.size (by obtain ⟨_, _, _, h, _⟩ := hM; exact h)
          have hb34 : Below w3.heap.size w3 w4 := hbl.trans (hb4.mono hbl.size)
          have hs34 := hb34.size
          have hA3 := HB3.out.size
          obtain ⟨K4, hK4⟩ : ∃ K4 : Nat → Prop, (fun b => K' b ∨ (w3.heap.size ≤ b ∧ b < w4.heap.size)) = K4 := ⟨_, rfl⟩
          have hP4 := HP3.out.more hb34
          rw [hK4] at hP4
          have k4 : ∀ b, K4 b → b < w4.heap.size := fun b h => by
            rw [← hK4] at h
            rcases h with h | h
            · have := HKR.out b h; omega
            · omega
          have hM4 : MoveAt w4 K4 xb (vL 0) := MoveAt.mono hM (fun b hb h => by rw [← hK4]; exact .inr ⟨Nat.le_trans hbl.size h, hb⟩)
          have hb04 := HB3.out.trans (hb34.mono HB3.out.size)
          have hI0 : LostI w.heap.size K4 pb xb d lack w4 0 w4 := ⟨_, hP4, by rw [show (if fewL lack ≤ 2 then 0 else 0 : Nat) = 0 from by split <;> rfl, show extL d 0 = List.replicate 4 (4, noS) from rfl]; exact HPQ.out, by rw [show (if fewL lack ≤ 2 then 0 else 0 : Nat) = 0 from by split <;> rfl]; exact hM4, Mod.refl _ _⟩
          have HI4 := Lib.hid hI0; have HB04 := Lib.hid hb04; have K4L := Lib.hid k4
          have hxw : w.heap.size ≤ xb := by omega
          have hs04 := hb04.size
          have HDD := Lib.hid (HD.out.below hb04)
          clear hI0 hb04 k4 hM4 hK4 hP4 hb34 hb4 hbl hM HP3 HPQ HB3 HC3 HN3 s0 s1 s2 HNEW HKR
          go_wp2
          go_loopw [12] (fun i wr => ∃ j : Nat, j ≤ 12 ∧ i = .int .i64 j ∧ LostI w.heap.size K4 pb xb d lack w4 j wr) (fun i _ => 12 - (intOf i).toNat)
          case atStart => exact ⟨0, by omega, rfl, HI4.out⟩
          case round =>
            obtain ⟨j, hj, rfl, pm, hP, hpq, hM, hm⟩ := hrel
            have hms := hm.size
            by_cases hlt : j < 12
            · have hk : ∀ b, K4 b → b < wr.heap.size := fun b h => Nat.lt_of_lt_of_le (K4L.out b h) hms
              by_cases hf : fewL lack ≤ 2
              · have hnni : ¬ (2 : Int) < (nn : Int) := by have := HNN.out; omega
                rw [if_pos hf] at hpq hM
                have hm4 : j % 4 < 4 := Nat.mod_lt _ (by decide)
                obtain ⟨pm', e1, hq1⟩ := stepL hpq hf hlt
                have hnx := next_step hP hk (by omega) (hpq.calm (by omega)) (vL_ok j) hM (j % 4) (by show j % 4 < 2 + 2; exact hm4) (by show j / 4 < 3; omega) (by show j % 4 < 4; exact hm4) (by
                  show ([0, 1, 2, 3] : List Int).getD (j % 4) 0 = ((j % 4 : Nat) : Int)
                  have : j % 4 = 0 ∨ j % 4 = 1 ∨ j % 4 = 2 ∨ j % 4 = 3 := by omega
                  rcases this with h | h | h | h <;> rw [h] <;> rfl) (by show 4 ≤ 1000; decide)
                rw [e1, if_pos rfl, vL_adv j hlt] at hnx
                have HNX := Lib.hid hnx; have HQ1 := Lib.hid hq1; have HMM := Lib.hid hm; have HF := Lib.hid hf
                clear hnx hq1 hm hP hM hpq e1 hk hf hm4
                go_wp2_with (fail)
                refine HNX.out.mono ?_
                rintro e w6 ⟨rfl, hP6, hM6, hm6⟩
                have HR := Lib.hid (show LostI w.heap.size K4 pb xb d lack w4 (j + 1) w6 from ⟨pm', hP6, by rw [if_pos HF.out]; exact HQ1.out, by rw [if_pos HF.out]; exact hM6, HMM.out.trans hm6⟩)
                clear hP6 hM6 hm6 HNX HMM HQ1
                go_wp2
                go_roundw
                case rel => exact ⟨j + 1, by omega, by go_num, HR.out⟩
                case measure => simp [intOf]; omega
              · have hnni : (2 : Int) < (nn : Int) := by have := HNN.out; omega
                rw [if_neg hf] at hpq hM
                have hst := stuckL hpq (by omega)
                have hnx := next_step hP hk (by omega) (hpq.calm (by omega)) (vL_ok 0) hM 0 (by show 0 < 4; decide) (by show 0 < 3; decide) (by show 0 < 4; decide) rfl (by show 4 ≤ 1000; decide)
                rw [hst, if_neg (by show ¬ (8 : Nat) = 0; decide)] at hnx
                have HNX := Lib.hid hnx; have HQ1 := Lib.hid hpq; have HMM := Lib.hid hm; have HF := Lib.hid hf
                clear hnx hm hP hM hpq hst hk hf
                go_wp2_with (fail)
                refine HNX.out.mono ?_
                rintro e w6 ⟨rfl, hP6, hM6, hm6⟩
                have HR := Lib.hid (show LostI w.heap.size K4 pb xb d lack w4 (j + 1) w6 from ⟨pm, hP6, by rw [if_neg HF.out]; exact HQ1.out.more (by omega), by rw [if_neg HF.out]; exact hM6, HMM.out.trans hm6⟩)
                clear hP6 hM6 hm6 HNX HMM HQ1
                go_wp2
                go_roundw
                case rel => exact ⟨j + 1, by omega, by go_num, HR.out⟩
                case measure => simp [intOf]; omega
            · obtain rfl : j = 12 := by omega
              have hb5 := below_mod HB04.out hs04 hm (fun b h => h.elim (fun h => by omega) (fun h => h.1))
              have HL := Lib.hid (own_lit0 wr wr.heap.size tU8 1 (Nat.le_refl _))
              have HD1 := Lib.hid (((HD.out.below (hb5.trans ((Below.refl wr.heap.size wr).alloc (Nat.le_refl _) (.cells #[] tU8) |>.mono hb5.size)))).mono (T := fun _ => True) (fun _ _ _ => trivial))
              have HB5 := Lib.hid hb5; have HP5 := Lib.hid hP; have HPQ5 := Lib.hid hpq
              clear hb5 hP hpq hM hm HI4 HDD HB04
              obtain ⟨w5, hw5⟩ : ∃ w5, w5 = wr := ⟨_, rfl⟩
              subst hw5
              go_wp2_with (at_builtin; refine wpList_app_dat rfl _ _ _ rfl E28 w5.heap.size HL.out HD1.out rfl rfl (by omega) (by simp) ?_)
              intro v1 w6 o1 g1
              have hb6 := Grew.new ((Below.refl w5.heap.size w5).alloc (Nat.le_refl _) (.cells #[] tU8)) (by simp) g1 (fun g hg => (HL.out.lt g hg).1)
              have hb6s := hb6.size
              obtain ⟨a1, n1, c1, rfl⟩ := own_shape o1
              have O1 := Lib.hid o1; have B6 := Lib.hid hb6
              clear o1 g1 hb6 HL HD1
              go_wp2_with (at_builtin; refine wpList_zeros rfl _ _ _ _ rfl E28 (k := .i64) (by rfl) w5.heap.size _ 32 O1.out rfl rfl rfl rfl (by omega) hb6s ?_)
              intro v2 w7 o2 g2
              have hb7 := Grew.new B6.out hb6s g2 (fun g hg => (O1.out.lt g hg).1)
              have hb7s := hb7.size
              have o2' : w7.ownsRow w5.heap.size tU8 1 v2 (d.length + 32) (u8s (d ++ List.replicate 32 0)) := by
                rw [u8s_append, ← u8s_zeros]
                simpa using o2
              have hB2 := Bs.of_own o2' (fun b => w5.heap.size ≤ b) (fun b hb _ => hb)
              obtain ⟨a2, c2, rfl⟩ := hB2.shape
              have hl2 : (d ++ List.replicate 32 (0 : UInt8)).length = d.length + 32 := by simp
              rw [hl2] at hB2
              have hc2 := hB2.cap
              have hBf : Bs w7 (fun b => w5.heap.size ≤ b) (.slice a2 16 c2) (fullM 2 d) := hB2.take 16 (by omega)
              have hc3 : ¬ c2 = 0 := by omega
              obtain ⟨b2, q2, _, hq⟩ : ∃ b2 q2 c, (Value.slice a2 (d.length + 32) c2) = .slice (some ⟨b2, q2, none⟩) (d.length + 32) c := by
                obtain ⟨b, o, c, e, _⟩ := (by rw [← hl2] at hB2; exact hB2 : Bs w7 (fun b => w5.heap.size ≤ b) (.slice a2 (d ++ List.replicate 32 (0 : UInt8)).length c2) (d ++ List.replicate 32 (0 : UInt8))).cellAt (by simp)
                rw [hl2] at e
                exact ⟨b, o, c, e⟩
              have ea : a2 = some ⟨b2, q2, none⟩ := by injection hq
              subst ea
              have HREN := Lib.hid (renc_any 2 2 (by decide) (by decide) (by decide) hBf (fullM_length 2 (by decide) d))
              have HB7 := Lib.hid hb7
              clear o2 o2' g2 O1 B6 hB2 hBf hq hb7
              rw [hl2]
              go_wp2_with (fail)
              refine HREN.out.mono ?_
              rintro e w8 ⟨v8, rfl, ht8, hb8⟩
              have hb58 : Below w5.heap.size w5 w8 := HB7.out.trans (hb8.mono hb7s)
              have hT8 : Tb w8 (fun _ => True) v8 (rencM 2 2 (fullM 2 d)) := ht8.toTb (fun _ _ => trivial) (fun _ _ => trivial)
              have hrl := renc_length 2 2 (fullM 2 d)
              obtain ⟨tb, to, tcc, rfl, _, htb, _, htr⟩ := hT8.cellAt (by omega)
              rw [hrl] at htr ⊢
              have hP8 := (HP5.out.more hb58).toL0
              have HP8 := Lib.hid hP8; have HB8 := Lib.hid (HB5.out.trans (hb58.mono HB5.out.size)); have HTR := Lib.hid htr
              clear hb58 hT8 ht8 hb8 hrl htr hP8 HP5 HREN HB7 HB5
              go_wp2
              go_loopw [17] (fun i wr => ∃ j : Nat, j ≤ 4 ∧ i = .int .i64 j ∧ Below w8.heap.size w8 wr) (fun i _ => 4 - (intOf i).toNat)
              case atStart => exact ⟨0, by omega, rfl, Below.refl _ _⟩
              case round =>
                obtain ⟨j, hj, rfl, hbr⟩ := hrel
                have hbw := HB8.out.trans (hbr.mono HB8.out.size)
                by_cases hlt : j < 4 ∧ fewL lack ≤ 2
                · obtain ⟨hj4, hf⟩ := hlt
                  have hpq := HPQ5.out
                  rw [if_pos hf] at hpq
                  have hnni : (nn : Int) ≤ 2 := by have := HNN.out; omega
                  have hld := loadE (q := j) hpq hj4 (by omega)
                  rw [show ((4 + j : Nat) : Int) = 4 + (j : Int) from by simp] at hld
                  have hcl := L_load2 (HP8.out.ext hbr) (hpq.calm (by decide)) (4 + (j : Int)) 33 j
                  rw [hld] at hcl
                  obtain ⟨ra, rc, c1, hB⟩ := HTR.out j hj4
                  have h8 := row22_len d j hj4
                  have x1 := (hbr.cell (p := ⟨tb, to + j, none⟩) htb).trans c1
                  have hx := hB.below hbr
                  generalize (rencM 2 2 (fullM 2 d)).getD j [] = row at *
                  rw [h8] at x1 hx
                  have HCL := Lib.hid hcl; have HX := Lib.hid hx; have H8 := Lib.hid h8
                  clear hcl hx h8 c1 hB hpq hld hf
                  go_wp2_with (fail)
                  refine HCL.out.mono ?_
                  rintro e w10 ⟨v10, rfl, hv10, hb10⟩
                  obtain ⟨v10a, v10c, rfl⟩ := hv10.shape
                  have x10 := (hb10.cell (p := ⟨tb, to + j, none⟩) (Nat.lt_of_lt_of_le htb hbr.size)).trans x1
                  have HX10 := Lib.hid (HX.out.below hb10); have HV10 := Lib.hid hv10; have HB10 := Lib.hid (hbr.trans (hb10.mono hbr.size))
                  have t1 : row.length ≤ 1000000 := by rw [H8.out]; decide
                  clear hv10 hb10 HCL x1
                  go_wp2_with (fail)
                  refine (same_same HV10.out HX10.out t1).mono ?_
                  rintro e w11 ⟨rfl, hb11⟩
                  have HB11 := Lib.hid (HB10.out.trans (hb11.mono HB10.out.size))
                  clear hb11 HB10 HV10 HX10 x10
                  go_wp2
                  go_roundw
                  case rel => exact ⟨j + 1, by omega, by go_num, HB11.out⟩
                  case measure => simp [intOf]; omega
                · have HBW := Lib.hid hbw
                  have hcase : (j < 4 ∧ (2 : Int) < (nn : Int)) ∨ j = 4 := by
                    by_cases h4 : j < 4
                    · exact .inl ⟨h4, by have := HNN.out; have : ¬ fewL lack ≤ 2 := fun h => hlt ⟨h4, h⟩; omega⟩
                    · exact .inr (by omega)
                  clear hbw hlt
                  rcases hcase with ⟨g1, g2⟩ | rfl
                  all_goals
                    go_wp2_with (go_at_call 51; refine (answers18 _).mono ?_; rintro e w12 ⟨rfl, hb12⟩)
                    go_ret
                    exact ⟨rfl, HBW.out.trans (hb12.mono HBW.out.size)⟩
end Go.Proofs.Fl

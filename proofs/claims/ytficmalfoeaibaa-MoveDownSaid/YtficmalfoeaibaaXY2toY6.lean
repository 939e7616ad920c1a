import Derived.Test.YtficmalfoeaibaaXX6toX9
namespace Go.Proofs.Fl
open Go.RowKit

/-! ### MoveLost: the pool -/
def vL (s : Nat) : MV := ⟨2, 2, [3, 2, 1, 0], [4, 5, 6, 7], [0, 1, 2, 3], s / 4, s % 4⟩
theorem vL_ok (s : Nat) : MvOk (vL s) := ⟨by show 1 ≤ 2; decide, by show 2 ≤ 4; decide, by show 2 ≤ 3; decide, rfl, rfl⟩
theorem vL_adv (s : Nat) (h : s < 12) : adv (vL s) = vL (s + 1) := by
  have : s = 0 ∨ s = 1 ∨ s = 2 ∨ s = 3 ∨ s = 4 ∨ s = 5 ∨ s = 6 ∨ s = 7 ∨ s = 8 ∨ s = 9 ∨ s = 10 ∨ s = 11 := by omega
  rcases this with rfl | rfl | rfl | rfl | rfl | rfl | rfl | rfl | rfl | rfl | rfl | rfl <;> rfl
def baseL (d : Bytes) (lack : UInt8) : DrvL := (laidL 4 (rencM 2 2 (fullM 2 d)) lack 0 4).map fun l => (8, fun j => l[j]?)
theorem baseL_len (d : Bytes) (lack : UInt8) : (baseL d lack).length = 4 := by unfold baseL; rw [List.length_map, laidL_length]
def extL (d : Bytes) (s : Nat) : DrvL := (List.range 4).map fun q => (4, if q < s then putF noS 0 (some (33, q, (rencM 2 2 (fullM 2 d)).getD q [])) else noS)
theorem extL_len (d : Bytes) (s : Nat) : (extL d s).length = 4 := by simp [extL]
theorem baseL_get (d : Bytes) (lack : UInt8) (x : DrvL) (j : Nat) (hj : j < 4) : (baseL d lack ++ x).getD (3 - j) (0, noS) = (8, fun i => (if bitB lack j = false then [((33, j, (rencM 2 2 (fullM 2 d)).getD j []) : Shd)] else [])[i]?) := by
  have hl := laidL_length 4 (rencM 2 2 (fullM 2 d)) lack 0 4
  have hg := laidL_get 4 (rencM 2 2 (fullM 2 d)) lack 0 j hj
  rw [laidB0] at hg
  have hlt : 4 - 1 - j < (laidL 4 (rencM 2 2 (fullM 2 d)) lack 0 4).length := by rw [hl]; omega
  rw [show 3 - j = 4 - 1 - j by omega, List.getD_eq_getElem?_getD, List.getElem?_append_left (by rw [baseL_len]; omega)]
  unfold baseL
  rw [List.getElem?_map, List.getElem?_eq_getElem hlt, Option.map_some, Option.getD_some]
  rw [List.getD_eq_getElem?_getD, List.getElem?_eq_getElem hlt, Option.getD_some] at hg
  rw [hg]
theorem extL_get (d : Bytes) (lack : UInt8) (s q : Nat) (hq : q < 4) : (baseL d lack ++ extL d s).getD (4 + q) (0, noS) = (4, if q < s then putF noS 0 (some (33, q, (rencM 2 2 (fullM 2 d)).getD q [])) else noS) := by
  rw [List.getD_eq_getElem?_getD, List.getElem?_append_right (by rw [baseL_len]; omega), baseL_len, show 4 + q - 4 = q by omega]
  unfold extL
  rw [List.getElem?_map, List.getElem?_range hq]; rfl
theorem row22_len (d : Bytes) (q : Nat) (hq : q < 4) : ((rencM 2 2 (fullM 2 d)).getD q []).length = 8 := renc_row 2 2 _ (by decide) (fullM_length 2 (by decide) d) q hq
theorem gatherL {t : Nat} {pm : PM} {d : Bytes} {lack : UInt8} {x : DrvL} (h : PQ t pm (baseL d lack ++ x)) : gatherK pm 33 [3, 2, 1, 0] 4 = (laidM 2 2 d lack 0).2 := by
  have e : (laidM 2 2 d lack 0).2 = (List.range 4).map (haveB (rencM 2 2 (fullM 2 d)) lack 0) := by unfold laidM; rw [laid_have]
  rw [e]
  unfold gatherK
  refine List.map_congr_left fun j hj => ?_
  have hj' := List.mem_range.1 hj
  have hloc : ([3, 2, 1, 0] : List Int).getD j 0 = ((3 - j : Nat) : Int) := by
    have : j = 0 ∨ j = 1 ∨ j = 2 ∨ j = 3 := by omega
    rcases this with rfl | rfl | rfl | rfl <;> rfl
  rw [hloc]
  have hb := baseL_get d lack x j hj'
  have hlen : 3 - j < (baseL d lack ++ x).length := by rw [List.length_append, baseL_len]; omega
  unfold haveB
  by_cases hl : bitB lack j = false
  · rw [if_pos hl] at hb
    have hld : pm.load ((3 - j : Nat) : Int) 33 j = ((rencM 2 2 (fullM 2 d)).getD j [], 0) := h.load (3 - j) hlen (33, j, (rencM 2 2 (fullM 2 d)).getD j []) 8 _ hb 0 (by decide) (by
      unfold findF
      refine firstIn_some (by decide) ?_ (by omega)
      simp) (by rfl)
    rw [shardOf_load hld, row22_len d j hj', hl, bit0]; rfl
  · rw [if_neg hl] at hb
    have hld : pm.load ((3 - j : Nat) : Int) 33 j = ([], 7) := h.load_none (3 - j) hlen 33 j 8 _ hb (by
      unfold findF
      refine firstIn_none fun i _ => by simp)
    have : bitB lack j = true := by simpa using hl
    rw [shardOf_load hld, this]; rfl
def fewL (lack : UInt8) : Nat := ((List.range 4).filter fun i => bitB lack i).length
theorem few_there (lack : UInt8) : thereK lack 0 4 + fewL lack = 4 := by
  have := u8_all (fun l => decide (thereK l 0 4 + fewL l = 4)) (by decide +kernel) lack
  exact of_decide_eq_true this
theorem oneL {t : Nat} {pm : PM} {d : Bytes} {lack : UInt8} {x : DrvL} (h : PQ t pm (baseL d lack ++ x)) (hf : fewL lack ≤ 2) (a : Nat) (ha : a < 4) : oneM 2 2 pm 33 [3, 2, 1, 0] a = ((rencM 2 2 (fullM 2 d)).getD a [], 0) := by
  have := few_there lack
  have hdec := laidM_dec 2 2 (by decide) (by decide) (by decide) d lack 0 (by show 2 ≤ thereK lack 0 4; omega)
  unfold oneM
  rw [show ([3, 2, 1, 0] : List Int).length = 4 from rfl, gatherL h]
  unfold rebM
  rw [hdec, if_neg (by simp), if_neg (by omega)]
  rfl
theorem oneL_lost {t : Nat} {pm : PM} {d : Bytes} {lack : UInt8} {x : DrvL} (h : PQ t pm (baseL d lack ++ x)) (hf : 2 < fewL lack) (a : Nat) : oneM 2 2 pm 33 [3, 2, 1, 0] a = ([], 8) := by
  have hft := few_there lack
  have hdec : decM 2 2 (laidM 2 2 d lack 0).2 = ([], 8) := by
    unfold decM
    rw [if_pos]
    refine Nat.lt_of_le_of_lt (selB_cnt _ _ _) ?_
    have e : ((List.range (2 + 2)).filter fun i => decide (((laidM 2 2 d lack 0).2.getD i []).length ≠ 0)) = (List.range 4).filter fun i => !(bitB lack i || bitB 0 i) := by
      refine List.filter_congr fun i hi => ?_
      have hi' := List.mem_range.1 hi
      rw [laidM_row _ _ _ _ _ _ hi']
      unfold haveB
      cases bitB lack i || bitB 0 i
      · show decide (((rencM 2 2 (fullM 2 d)).getD i []).length ≠ 0) = true
        rw [row22_len d i hi']; rfl
      · rfl
    rw [e]
    show thereK lack 0 4 < 2
    omega
  unfold oneM
  rw [show ([3, 2, 1, 0] : List Int).length = 4 from rfl, gatherL h]
  unfold rebM
  rw [hdec, if_pos (by decide)]
/-- nothing is moved -/
theorem stuckL {t : Nat} {pm : PM} {d : Bytes} {lack : UInt8} {x : DrvL} (h : PQ t pm (baseL d lack ++ x)) (hf : 2 < fewL lack) : doM (vL 0) pm 0 = (8, pm) := by
  have h1 : oneM 2 2 pm 33 [3, 2, 1, 0] 0 = ([], 8) := oneL_lost h hf 0
  show copyM (vL 0) pm 0 = _
  unfold copyM
  show (if (oneM 2 2 pm 33 [3, 2, 1, 0] 0).2 ≠ 0 then ((oneM 2 2 pm 33 [3, 2, 1, 0] 0).2, pm) else _) = _
  rw [h1, if_pos (by decide)]
theorem tgt_get (q : Nat) (hq : q < 4) : ([4, 5, 6, 7] : List Int).getD q 0 = ((4 + q : Nat) : Int) := by
  have : q = 0 ∨ q = 1 ∨ q = 2 ∨ q = 3 := by omega
  rcases this with rfl | rfl | rfl | rfl <;> rfl
theorem loadE {t : Nat} {pm : PM} {d : Bytes} {lack : UInt8} {s q : Nat} (h : PQ t pm (baseL d lack ++ extL d s)) (hq : q < 4) (hs : q < s) : pm.load ((4 + q : Nat) : Int) 33 q = ((rencM 2 2 (fullM 2 d)).getD q [], 0) := by
  have hg := extL_get d lack s q hq
  rw [if_pos hs] at hg
  exact h.load (4 + q) (by rw [List.length_append, baseL_len, extL_len]; omega) (33, q, (rencM 2 2 (fullM 2 d)).getD q []) 4 _ hg 0 (by decide) (by
    unfold findF
    refine firstIn_some (by decide) ?_ (by omega)
    simp [putF]) (by rfl)
/-- one thing after the other -/
theorem stepL {t : Nat} {pm : PM} {d : Bytes} {lack : UInt8} {s : Nat} (h : PQ t pm (baseL d lack ++ extL d s)) (hf : fewL lack ≤ 2) (hs : s < 12) :
    ∃ pm', doM (vL s) pm (s % 4) = (0, pm') ∧ PQ (t + 1) pm' (baseL d lack ++ extL d (s + 1)) := by
  have hq : s % 4 < 4 := Nat.mod_lt _ (by decide)
  have hone := oneL h hf (s % 4) hq
  have hlen : 4 + s % 4 < (baseL d lack ++ extL d s).length := by rw [List.length_append, baseL_len, extL_len]; omega
  have hsame : ∀ s', 4 ≤ s' → extL d s' = extL d 4 := fun s' h' => by
    unfold extL
    refine List.map_congr_left fun q hq => ?_
    have := List.mem_range.1 hq
    rw [if_pos (by omega), if_pos (by omega)]
  have htg := tgt_get (s % 4) hq
  by_cases h0 : s < 4
  · have es : s % 4 = s := Nat.mod_eq_of_lt h0
    rw [es] at hone hlen htg ⊢
    have hg := extL_get d lack s s h0
    rw [if_neg (Nat.lt_irrefl s)] at hg
    obtain ⟨m', e, h2⟩ := h.store (4 + s) hlen (33, s, (rencM 2 2 (fullM 2 d)).getD s []) ⟨by show 33 ≤ 1073741824; decide, by show s ≤ 255; omega, by show ((rencM 2 2 (fullM 2 d)).getD s []).length ≤ 50; rw [row22_len d s h0]; decide⟩ 4 noS hg 0 (by rfl)
    refine ⟨m', ?_, ?_⟩
    · show (if (vL s).phase = 0 then copyM (vL s) pm s else _) = _
      rw [if_pos (show (vL s).phase = 0 from by show s / 4 = 0; omega)]
      unfold copyM
      show (if (oneM 2 2 pm 33 [3, 2, 1, 0] s).2 ≠ 0 then _ else pm.store (([4, 5, 6, 7] : List Int).getD s 0) 33 s (oneM 2 2 pm 33 [3, 2, 1, 0] s).1) = _
      rw [hone, htg]
      exact e
    · have e2 : (baseL d lack ++ extL d s).set (4 + s) (4, putF noS 0 (some (33, s, (rencM 2 2 (fullM 2 d)).getD s []))) = baseL d lack ++ extL d (s + 1) := by
        rw [List.set_append_right _ _ (by rw [baseL_len]; omega), baseL_len, show 4 + s - 4 = s by omega]
        congr 1
        apply List.ext_getElem
        · rw [List.length_set, extL_len, extL_len]
        · intro q h1 h2
          have hq4 : q < 4 := by rw [extL_len] at h2; exact h2
          rw [List.getElem_set]
          simp only [extL, List.getElem_map, List.getElem_range]
          by_cases e : s = q
          · subst e; rw [if_pos rfl, if_pos (by omega)]
          · rw [if_neg e]
            by_cases hc : q < s
            · rw [if_pos hc, if_pos (by omega)]
            · rw [if_neg hc, if_neg (by omega)]
      rw [e2] at h2
      exact h2
  · rw [hsame s (by omega), ← hsame (s + 1) (by omega)] at h
    by_cases h1 : s < 8
    · obtain ⟨m', e, h2⟩ := h.flush (4 + s % 4) (by rw [List.length_append, baseL_len, extL_len]; omega)
      refine ⟨m', ?_, h2.more (by omega)⟩
      show (if (vL s).phase = 0 then _ else if (vL s).phase = 1 then pm.flush (([4, 5, 6, 7] : List Int).getD (s % 4) 0) else _) = _
      rw [if_neg (show ¬ (vL s).phase = 0 from by show ¬ s / 4 = 0; omega), if_pos (show (vL s).phase = 1 from by show s / 4 = 1; omega), htg]
      exact e
    · refine ⟨pm, ?_, h.more (by omega)⟩
      show (if (vL s).phase = 0 then _ else if (vL s).phase = 1 then _ else (verM (vL s) pm (s % 4), pm)) = _
      rw [if_neg (show ¬ (vL s).phase = 0 from by show ¬ s / 4 = 0; omega), if_neg (show ¬ (vL s).phase = 1 from by show ¬ s / 4 = 1; omega)]
      have hld := loadE h hq (by omega)
      have hv : verM (vL s) pm (s % 4) = 0 := by
        show (if (pm.load (([4, 5, 6, 7] : List Int).getD (s % 4) 0) 33 (s % 4 : Nat)).2 ≠ 0 then _ else if (oneM 2 2 pm 33 [3, 2, 1, 0] (s % 4 : Nat)).2 ≠ 0 then _ else if (pm.load (([4, 5, 6, 7] : List Int).getD (s % 4) 0) 33 (s % 4 : Nat)).1 = (oneM 2 2 pm 33 [3, 2, 1, 0] (s % 4 : Nat)).1 then 0 else 12) = 0
        rw [htg, hld, hone, if_neg (by simp), if_neg (by simp), if_pos rfl]
      rw [hv]
end Go.Proofs.Fl

namespace Go.Proofs.Fl
open Go.RowKit

/-! ### MoveDown: the pool whose power goes -/
def rowD (d : Bytes) (q : Nat) : Bytes := (rencM 2 1 (fullM 2 d)).getD q []
theorem rowD_len (d : Bytes) (q : Nat) (hq : q < 3) : (rowD d q).length = 8 := renc_row 2 1 _ (by decide) (fullM_length 2 (by decide) d) q hq
def vD (s : Nat) : MV := ⟨2, 1, [2, 1, 0], [3, 4, 5], [0, 1, 2], s / 3, s % 3⟩
theorem vD_ok (s : Nat) : MvOk (vD s) := ⟨by show 1 ≤ 2; decide, by show 2 ≤ 4; decide, by show 1 ≤ 3; decide, rfl, rfl⟩
theorem vD_adv (s : Nat) (h : s < 9) : adv (vD s) = vD (s + 1) := by
  have : s = 0 ∨ s = 1 ∨ s = 2 ∨ s = 3 ∨ s = 4 ∨ s = 5 ∨ s = 6 ∨ s = 7 ∨ s = 8 := by omega
  rcases this with rfl | rfl | rfl | rfl | rfl | rfl | rfl | rfl | rfl <;> rfl
theorem tgtD (q : Nat) (hq : q < 3) : ([3, 4, 5] : List Int).getD q 0 = ((3 + q : Nat) : Int) := by
  have : q = 0 ∨ q = 1 ∨ q = 2 := by omega
  rcases this with rfl | rfl | rfl <;> rfl
def frD (d : Bytes) (q : Nat) : Bytes := frame 33 q (rowD d q)
/-- A target drive: empty; its shard written; its shard flushed. -/
def tgt (d : Bytes) (q st : Nat) : DM := if st = 0 then ⟨[[], [], [], []], [], false⟩ else if st = 1 then ⟨[[], [], [], []], [(0, frD d q)], false⟩ else ⟨[frD d q, [], [], []], [], false⟩
def stg (s q : Nat) : Nat := if q + 3 < s then 2 else if q < s then 1 else 0
structure MD (m : PM) (fz : Int) (dn : Bool) (d : Bytes) (s : Nat) : Prop where
  fuse : m.fuse = fz
  down : m.down = dn
  len : m.list.length = 6
  src : ∀ q, q < 3 → HasF 8 (m.get q) 8 (laidS 3 (rencM 2 1 (fullM 2 d)) q).2 ∧ (m.get q).loose = []
  tgt_ : ∀ q, q < 3 → m.get (3 + q) = tgt d q (stg s q)
theorem tgt_has (d : Bytes) (q st : Nat) (hq : q < 3) : HasF 8 (tgt d q st) 4 (if st = 0 then noS else putF noS 0 (some (33, q, rowD d q))) := by
  have hok : okS (33, q, rowD d q) := ⟨by show 33 ≤ 1073741824; decide, by show q ≤ 255; omega, by show (rowD d q).length ≤ 50; rw [rowD_len d q hq]; decide⟩
  have h0 : HasF 8 (⟨[[], [], [], []], [], false⟩ : DM) 4 noS := ⟨rfl, rfl, by simp, fun j hj => by
    have : j = 0 ∨ j = 1 ∨ j = 2 ∨ j = 3 := by omega
    rcases this with rfl | rfl | rfl | rfl <;> rfl, fun j x h => by cases h⟩
  unfold tgt
  by_cases e0 : st = 0
  · rw [if_pos e0, if_pos e0]; exact h0
  · rw [if_neg e0, if_neg e0]
    have h1 : HasF 8 (⟨[[], [], [], []], [(0, frD d q)], false⟩ : DM) 4 (putF noS 0 (some (33, q, rowD d q))) := ⟨rfl, rfl, by simp, fun j hj => by
      have : j = 0 ∨ j = 1 ∨ j = 2 ∨ j = 3 := by omega
      rcases this with rfl | rfl | rfl | rfl <;> rfl, fun j x h => by
        unfold putF noS at h
        split at h
        · injection h with h; rw [← h]; exact hok
        · cases h⟩
    by_cases e1 : st = 1
    · rw [if_pos e1]; exact h1
    · rw [if_neg e1]
      exact ⟨rfl, rfl, by simp, fun j hj => by
        have : j = 0 ∨ j = 1 ∨ j = 2 ∨ j = 3 := by omega
        rcases this with rfl | rfl | rfl | rfl <;> rfl, h1.ok⟩
theorem MD.calm {m : PM} {fz : Int} {dn : Bool} {d : Bytes} {s : Nat} (h : MD m fz dn d s) : m.calm := by
  intro i hi
  rw [h.len] at hi
  by_cases h3 : i < 3
  · rw [(h.src i h3).2]; simp
  · have := h.tgt_ (i - 3) (by omega)
    rw [show 3 + (i - 3) = i by omega] at this
    rw [this]
    have := (tgt_has d (i - 3) (stg s (i - 3)) (by omega)).few
    omega
theorem MD.use {m : PM} {fz : Int} {dn : Bool} {d : Bytes} {s : Nat} (h : MD m fz dn d s) (n : Nat) (hn : n < 6) : m.use n = 0 := by
  have hal : (m.get n).lost = false := by
    by_cases h3 : n < 3
    · exact (h.src n h3).1.alive
    · have := h.tgt_ (n - 3) (by omega)
      rw [show 3 + (n - 3) = n by omega] at this
      rw [this]; exact (tgt_has d (n - 3) _ (by omega)).alive
  unfold PM.use
  rw [if_pos (by rw [h.len]; omega)]
  change (if (m.get n).lost then 8 else 0) = 0
  rw [hal]; rfl
theorem load_has {m : PM} {n t c : Nat} {f : Slots} (hu : m.use n = 0) (hh : HasF t (m.get n) c f) (x : Shd) (j : Nat) (hjc : j < c) (hj : findF f c x.1 x.2.1 = some j) (hfj : f j = some x) : m.load n x.1 x.2.1 = (x.2.2, 0) := by
  have hk := hh.ok j x hfj
  unfold PM.load
  rw [if_neg (by rw [hu]; simp)]
  change (match (m.get n).find x.1 x.2.1 with | none => ([], 7) | some j => (match openF ((m.get n).get j) with | none => [] | some (_, _, b) => b, 0)) = _
  rw [hh.find, hj]
  show (match openF ((m.get n).get j) with | none => [] | some (_, _, b) => b, 0) = _
  rw [hh.at_ j hjc, hfj]
  show (match openF (frame x.1 x.2.1 x.2.2) with | none => [] | some (_, _, b) => b, 0) = _
  rw [openF_frame _ _ _ (by have := hk.1; omega) (by have := hk.2.1; omega) hk.2.2]
theorem MD.src_ {m : PM} {fz : Int} {dn : Bool} {d : Bytes} {s : Nat} (h : MD m fz dn d s) : Src m 3 (rencM 2 1 (fullM 2 d)) := by
  intro j hj
  have hh := (h.src (2 - j) (by omega)).1
  have ej : 3 - 1 - (2 - j) = j := by omega
  have := load_has (h.use (2 - j) (by omega)) hh (33, j, (rencM 2 1 (fullM 2 d)).getD j []) 0 (by decide) (by
    unfold findF laidS
    refine firstIn_some (by decide) ?_ (by omega)
    rw [ej]; simp) (by unfold laidS; rw [ej]; rfl)
  rw [show 3 - 1 - j = 2 - j by omega]
  exact this
theorem MD.one {m : PM} {fz : Int} {dn : Bool} {d : Bytes} {s : Nat} (h : MD m fz dn d s) (a : Nat) (ha : a < 3) : oneM 2 1 m 33 [2, 1, 0] a = (rowD d a, 0) :=
  one_src 2 1 (by decide) (by decide) (by decide) d h.src_ a ha
theorem stg_same (s q : Nat) (h : s ≠ q) (h2 : s ≠ q + 3) : stg (s + 1) q = stg s q := by
  unfold stg
  by_cases a : q + 3 < s
  · rw [if_pos a, if_pos (by omega)]
  · rw [if_neg a, if_neg (by omega)]
    by_cases b : q < s
    · rw [if_pos b, if_pos (by omega)]
    · rw [if_neg b, if_neg (by omega)]
/-- a step that has power -/
theorem MD.next {m : PM} {fz : Int} {d : Bytes} {s n : Nat} {x : DM} (h : MD m fz false d s) (hs : s < 6) (hn : n = 3 + s % 3) (hx : x = tgt d (s % 3) (s / 3 + 1)) (m' : PM) (hm : m' = { m with fuse := fz - 1 }.setD n x) : MD m' (fz - 1) false d (s + 1) := by
  subst hm; subst hn
  have hmod : s % 3 < 3 := Nat.mod_lt _ (by decide)
  have hl : ({ m with fuse := fz - 1 } : PM).list.length = 6 := h.len
  have hg : ∀ i, ({ m with fuse := fz - 1 } : PM).get i = m.get i := fun i => rfl
  refine ⟨rfl, h.down, by rw [setD_len]; exact hl, fun q hq => ?_, fun q hq => ?_⟩
  · rw [setD_get5 _ _ _ _ (by omega), if_neg (by omega), hg]; exact h.src q hq
  · rw [setD_get5 _ _ _ _ (by omega)]
    by_cases e : s % 3 = q
    · subst e
      rw [if_pos rfl, hx]
      have : stg (s + 1) (s % 3) = s / 3 + 1 := by
        have : s = 0 ∨ s = 1 ∨ s = 2 ∨ s = 3 ∨ s = 4 ∨ s = 5 := by omega
        rcases this with rfl | rfl | rfl | rfl | rfl | rfl <;> rfl
      rw [this]
    · rw [if_neg (by omega), hg, h.tgt_ q hq, stg_same s q (fun e' => e (by omega)) (fun e' => e (by omega))]
theorem MD.burn {m : PM} {fz : Int} {d : Bytes} {s : Nat} (h : MD m fz false d s) (hf : 0 ≤ fz) : m.burn = if fz = 0 then (false, { m with down := true }) else (true, { m with fuse := fz - 1 }) := by
  unfold PM.burn
  by_cases e : fz = 0
  · rw [if_pos e, if_pos (.inr (by rw [h.fuse, e]))]
  · rw [if_neg e, if_neg (by rw [h.down, h.fuse]; simp [e]), if_pos (by rw [h.fuse]; omega), h.fuse]
theorem stepD {m : PM} {fz : Int} {d : Bytes} {s : Nat} (h : MD m fz false d s) (hf : 0 ≤ fz) (hs : s < 6) :
    doM (vD s) m (s % 3) = if fz = 0 then (9, { m with down := true }) else (0, { m with fuse := fz - 1 }.setD (3 + s % 3) (tgt d (s % 3) (s / 3 + 1))) := by
  have hmod : s % 3 < 3 := Nat.mod_lt _ (by decide)
  have hone := h.one (s % 3) hmod
  have htg := tgtD (s % 3) hmod
  have hgt := h.tgt_ (s % 3) hmod
  have hbu := h.burn hf
  have hu := h.use (3 + s % 3) (by omega)
  by_cases h0 : s < 3
  · have es : s % 3 = s := Nat.mod_eq_of_lt h0
    rw [es] at hone htg hgt hu ⊢
    have hst : stg s s = 0 := by unfold stg; rw [if_neg (by omega), if_neg (by omega)]
    rw [hst] at hgt
    have hh := tgt_has d s 0 h0
    rw [if_pos rfl, ← hgt] at hh
    show (if (vD s).phase = 0 then copyM (vD s) m s else _) = _
    rw [if_pos (show (vD s).phase = 0 from by show s / 3 = 0; omega)]
    unfold copyM
    show (if (oneM 2 1 m 33 [2, 1, 0] s).2 ≠ 0 then _ else m.store (([3, 4, 5] : List Int).getD s 0) 33 s (oneM 2 1 m 33 [2, 1, 0] s).1) = _
    rw [hone, htg, if_neg (by simp)]
    unfold PM.store
    rw [if_neg (by rw [h.len]; have := rowD_len d s h0; dsimp only; omega)]
    change (if (m.get (3 + s)).lost then (8, m) else match ((m.get (3 + s)).find 33 s).orElse (fun _ => (m.get (3 + s)).free1) with | none => (3, m) | some j => m.write (3 + s) j (frame 33 s (rowD d s))) = _
    have hfi : (m.get (3 + s)).find 33 s = none := (hh.find 33 s).trans rfl
    rw [if_neg (by rw [hh.alive]; simp), hfi, hh.free]
    show m.write (3 + s) 0 (frame 33 s (rowD d s)) = _
    unfold PM.write
    rw [hbu, hgt]
    by_cases e : fz = 0
    · rw [if_pos e, if_pos e]; rfl
    · rw [if_neg e, if_neg e]
      show (0, ({ m with fuse := fz - 1 } : PM).setD (3 + s) ((tgt d s 0).put 0 (frame 33 s (rowD d s)))) = _
      rw [show s / 3 + 1 = 1 by omega]; rfl
  · have hst : stg s (s % 3) = 1 := by
      have : s = 3 ∨ s = 4 ∨ s = 5 := by omega
      rcases this with rfl | rfl | rfl <;> rfl
    rw [hst] at hgt
    show (if (vD s).phase = 0 then _ else if (vD s).phase = 1 then m.flush (([3, 4, 5] : List Int).getD (s % 3) 0) else _) = _
    rw [if_neg (show ¬ (vD s).phase = 0 from by show ¬ s / 3 = 0; omega), if_pos (show (vD s).phase = 1 from by show s / 3 = 1; omega), htg]
    unfold PM.flush
    rw [if_neg (by rw [hu]; simp), hbu]
    by_cases e : fz = 0
    · rw [if_pos e, if_pos e]; rfl
    · rw [if_neg e, if_neg e]
      show (0, ({ m with fuse := fz - 1 } : PM).setD (3 + s % 3) ((m.get (3 + s % 3)).keep fun _ => true)) = _
      rw [hgt, show s / 3 + 1 = 2 by omega]; rfl
/-- what is looked at is there -/
theorem lookD {m : PM} {fz : Int} {d : Bytes} {s : Nat} (h : MD m fz false d s) (hs : 6 ≤ s) (hs9 : s < 9) : doM (vD s) m (s % 3) = (0, m) ∧ MD m fz false d (s + 1) := by
  have hmod : s % 3 < 3 := Nat.mod_lt _ (by decide)
  have hone := h.one (s % 3) hmod
  have htg := tgtD (s % 3) hmod
  have hgt := h.tgt_ (s % 3) hmod
  have hst : stg s (s % 3) = 2 := by unfold stg; rw [if_pos (by omega)]
  rw [hst] at hgt
  have hh := tgt_has d (s % 3) 2 hmod
  rw [if_neg (by decide), ← hgt] at hh
  have hld : m.load ((3 + s % 3 : Nat) : Int) 33 (s % 3 : Nat) = (rowD d (s % 3), 0) := load_has (h.use (3 + s % 3) (by omega)) hh (33, s % 3, rowD d (s % 3)) 0 (by decide) (by
    unfold findF
    refine firstIn_some (by decide) ?_ (by omega)
    simp [putF]) (by rfl)
  refine ⟨?_, ⟨h.fuse, h.down, h.len, h.src, fun q hq => ?_⟩⟩
  · show (if (vD s).phase = 0 then _ else if (vD s).phase = 1 then _ else (verM (vD s) m (s % 3), m)) = _
    rw [if_neg (show ¬ (vD s).phase = 0 from by show ¬ s / 3 = 0; omega), if_neg (show ¬ (vD s).phase = 1 from by show ¬ s / 3 = 1; omega)]
    have hv : verM (vD s) m (s % 3) = 0 := by
      show (if (m.load (([3, 4, 5] : List Int).getD (s % 3) 0) 33 (s % 3 : Nat)).2 ≠ 0 then _ else if (oneM 2 1 m 33 [2, 1, 0] (s % 3 : Nat)).2 ≠ 0 then _ else if (m.load (([3, 4, 5] : List Int).getD (s % 3) 0) 33 (s % 3 : Nat)).1 = (oneM 2 1 m 33 [2, 1, 0] (s % 3 : Nat)).1 then 0 else 12) = 0
      rw [htg, hld, hone, if_neg (by simp), if_neg (by simp), if_pos rfl]
    rw [hv]
  · rw [h.tgt_ q hq]
    congr 1
    unfold stg
    rw [if_pos (by omega), if_pos (by omega)]
end Go.Proofs.Fl

namespace Go.Proofs.Fl
open Go.RowKit

theorem keep_nil (d : DM) (h : d.loose = []) (sel : Nat → Bool) : d.keep sel = d := by
  obtain ⟨a, b, c⟩ := d
  simp only at h
  subst h
  rfl
def pS (d : Bytes) (q : Nat) : Slots := putF noS 0 (some (33, q, rowD d q))
def lsE (d : Bytes) (g : Nat → Bool) (s : Nat) : DrvL := [laidS 3 (rencM 2 1 (fullM 2 d)) 0, laidS 3 (rencM 2 1 (fullM 2 d)) 1, laidS 3 (rencM 2 1 (fullM 2 d)) 2] ++ (List.range 3).map fun q => (4, if g q = true ∨ q < s then pS d q else noS)
theorem lsE_len (d : Bytes) (g : Nat → Bool) (s : Nat) : (lsE d g s).length = 6 := by simp [lsE]
theorem lsE_src (d : Bytes) (g : Nat → Bool) (s q : Nat) (hq : q < 3) : (lsE d g s).getD q (0, noS) = laidS 3 (rencM 2 1 (fullM 2 d)) q := by
  have : q = 0 ∨ q = 1 ∨ q = 2 := by omega
  rcases this with rfl | rfl | rfl <;> rfl
theorem lsE_tgt (d : Bytes) (g : Nat → Bool) (s q : Nat) (hq : q < 3) : (lsE d g s).getD (3 + q) (0, noS) = (4, if g q = true ∨ q < s then pS d q else noS) := by
  have : q = 0 ∨ q = 1 ∨ q = 2 := by omega
  rcases this with rfl | rfl | rfl <;> rfl
theorem crashD {m : PM} {fz : Int} {dn : Bool} {d : Bytes} {s : Nat} (h : MD m fz dn d s) (x : Nat) : ∃ g, PQ 8 (m.crash x) (lsE d g 0) := by
  obtain ⟨sel, hsel⟩ : ∃ sel : Nat → Nat → Bool, (fun i => crashSel (rotN x (turnS i))) = sel := ⟨_, rfl⟩
  have hget : ∀ i, i < 6 → (m.crash x).get i = (m.get i).keep (sel i) := fun i hi => by
    show (m.crashTo x m.list.length).get i = _
    rw [crashTo_get _ _ _ _ (Nat.le_refl _), if_pos (by rw [h.len]; exact hi), ← hsel]
  refine ⟨fun q => if stg s q = 0 then false else if stg s q = 1 then sel (3 + q) 0 else true, rfl, rfl, ?_, fun i hi => ?_⟩
  · show (m.crashTo x m.list.length).list.length = _
    rw [crashTo_len, h.len, lsE_len]
  · rw [lsE_len] at hi
    rw [hget i hi]
    by_cases h3 : i < 3
    · have hs := h.src i h3
      rw [keep_nil _ hs.2, lsE_src _ _ _ _ h3]
      exact hs.1
    · obtain ⟨q, rfl⟩ : ∃ q, i = 3 + q := ⟨i - 3, by omega⟩
      have hq : q < 3 := by omega
      rw [h.tgt_ q hq, lsE_tgt _ _ _ _ hq]
      have hst : stg s q = 0 ∨ stg s q = 1 ∨ stg s q = 2 := by
        unfold stg
        split
        · exact .inr (.inr rfl)
        · split
          · exact .inr (.inl rfl)
          · exact .inl rfl
      have t0 := tgt_has d q 0 hq
      have t2 := tgt_has d q 2 hq
      rw [if_pos rfl] at t0
      rw [if_neg (by decide)] at t2
      rcases hst with e | e | e <;> rw [e]
      · rw [keep_nil _ rfl]
        exact t0
      · cases hs : sel (3 + q) 0 with
        | true =>
          have ek : (tgt d q 1).keep (sel (3 + q)) = tgt d q 2 := by
            show (⟨if sel (3 + q) 0 = true then _ else _, [], false⟩ : DM) = _
            rw [if_pos hs]; rfl
          rw [ek]; exact t2
        | false =>
          have ek : (tgt d q 1).keep (sel (3 + q)) = tgt d q 0 := by
            show (⟨if sel (3 + q) 0 = true then _ else _, [], false⟩ : DM) = _
            rw [if_neg (by rw [hs]; decide)]; rfl
          rw [ek]; exact t0
      · rw [keep_nil _ rfl]
        exact t2
theorem srcE {t : Nat} {m : PM} {d : Bytes} {g : Nat → Bool} {s : Nat} (h : PQ t m (lsE d g s)) : Src m 3 (rencM 2 1 (fullM 2 d)) :=
  src_of h 3 _ (by rw [lsE_len]; decide) (fun q hq => lsE_src d g s q hq)
theorem oneE {t : Nat} {m : PM} {d : Bytes} {g : Nat → Bool} {s : Nat} (h : PQ t m (lsE d g s)) (a : Nat) (ha : a < 3) : oneM 2 1 m 33 [2, 1, 0] a = (rowD d a, 0) :=
  one_src 2 1 (by decide) (by decide) (by decide) d (srcE h) a ha
structure EI (m : PM) (d : Bytes) (g : Nat → Bool) (s : Nat) : Prop where
  pq : PQ (8 + s) m (lsE d g s)
  ls : ∀ q, q < 3 → q + 3 < s → m.lasts ((3 + q : Nat) : Int) 33 q = true
theorem lasts_get {m m' : PM} (n : Nat) (hn : n < m.list.length) (hl : m'.list.length = m.list.length) (hg : m'.get n = m.get n) (S K : Int) : m'.lasts n S K = m.lasts n S K := by
  unfold PM.lasts
  rw [hl, if_pos (by omega), if_pos (by omega)]
  show (m'.get n).lastsB S K = (m.get n).lastsB S K
  rw [hg]
theorem pS_put (d : Bytes) (q : Nat) (f : Slots) (hf : f = noS ∨ f = pS d q) : putF f 0 (some (33, q, rowD d q)) = pS d q := by
  funext i
  rcases hf with rfl | rfl
  · rfl
  · unfold pS putF; split <;> rfl
theorem lsE_same (d : Bytes) (g : Nat → Bool) (s : Nat) (h : 3 ≤ s) : lsE d g (s + 1) = lsE d g s := by
  unfold lsE
  congr 1
  refine List.map_congr_left fun q hq => ?_
  have := List.mem_range.1 hq
  rw [if_pos (.inr (by omega)), if_pos (.inr (by omega))]
theorem stepE {m : PM} {d : Bytes} {g : Nat → Bool} {s : Nat} (h : EI m d g s) (hs : s < 9) : ∃ m', doM (vD s) m (s % 3) = (0, m') ∧ EI m' d g (s + 1) := by
  have hmod : s % 3 < 3 := Nat.mod_lt _ (by decide)
  have hone := oneE h.pq (s % 3) hmod
  have htg := tgtD (s % 3) hmod
  have hlen : 3 + s % 3 < (lsE d g s).length := by rw [lsE_len]; omega
  have hml : m.list.length = 6 := by rw [h.pq.len, lsE_len]
  by_cases h0 : s < 3
  · have es : s % 3 = s := Nat.mod_eq_of_lt h0
    rw [es] at hone htg hlen ⊢
    obtain ⟨f, hf⟩ : ∃ f, (if g s = true ∨ s < s then pS d s else noS) = f := ⟨_, rfl⟩
    have hg := lsE_tgt d g s s h0
    rw [hf] at hg
    have hff : f = noS ∨ f = pS d s := by
      rw [← hf]; split
      · exact .inr rfl
      · exact .inl rfl
    have hj : (findF f 4 33 s).orElse (fun _ => freeF f 4) = some 0 := by
      rcases hff with rfl | rfl
      · rfl
      · have : findF (pS d s) 4 33 s = some 0 := by
          unfold findF
          refine firstIn_some (by decide) ?_ (by omega)
          simp [pS, putF]
        rw [this]; rfl
    obtain ⟨m', e, h2⟩ := h.pq.store (3 + s) hlen (33, s, rowD d s) ⟨by show 33 ≤ 1073741824; decide, by show s ≤ 255; omega, by show (rowD d s).length ≤ 50; rw [rowD_len d s h0]; decide⟩ 4 f hg 0 hj
    refine ⟨m', ?_, ?_, fun q hq hqs => by omega⟩
    · show (if (vD s).phase = 0 then copyM (vD s) m s else _) = _
      rw [if_pos (show (vD s).phase = 0 from by show s / 3 = 0; omega)]
      unfold copyM
      show (if (oneM 2 1 m 33 [2, 1, 0] s).2 ≠ 0 then _ else m.store (([3, 4, 5] : List Int).getD s 0) 33 s (oneM 2 1 m 33 [2, 1, 0] s).1) = _
      rw [hone, htg]
      exact e
    · rw [pS_put d s f hff] at h2
      have e2 : (lsE d g s).set (3 + s) (4, pS d s) = lsE d g (s + 1) := by
        have : s = 0 ∨ s = 1 ∨ s = 2 := by omega
        rcases this with rfl | rfl | rfl <;> simp [lsE, List.range_succ]
      rw [e2] at h2
      exact h2
  · by_cases h1 : s < 6
    · obtain ⟨n, hn⟩ : ∃ n, 3 + s % 3 = n := ⟨_, rfl⟩
      have hq3 : s % 3 = s - 3 := by omega
      have hh := h.pq.has (3 + s % 3) hlen
      rw [lsE_tgt d g s (s % 3) hmod, if_pos (.inr (by omega))] at hh
      have hk := hh.keep
      have hfl : m.flush ((3 + s % 3 : Nat) : Int) = (0, m.setD (3 + s % 3) ((m.get (3 + s % 3)).keep fun _ => true)) := by
        unfold PM.flush
        rw [if_neg (by rw [h.pq.use (3 + s % 3) hlen]; simp), h.pq.burn, if_pos rfl]
        rfl
      have hset := h.pq.set (3 + s % 3) hlen hk
      have e3 : (lsE d g s).set (3 + s % 3) (4, pS d (s % 3)) = lsE d g (s + 1) := by
        rw [lsE_same d g s (by omega)]
        have hgt := lsE_tgt d g s (s % 3) hmod
        rw [if_pos (.inr (by omega))] at hgt
        rw [← hgt, List.getD_eq_getElem?_getD, List.getElem?_eq_getElem hlen, Option.getD_some]
        exact List.set_getElem_self hlen
      rw [show ((4, pS d (s % 3)) : Nat × Slots).1 = 4 from rfl, show ((4, pS d (s % 3)) : Nat × Slots).2 = pS d (s % 3) from rfl, e3] at hset
      refine ⟨_, ?_, hset.more (by omega), fun q hq hqs => ?_⟩
      · show (if (vD s).phase = 0 then _ else if (vD s).phase = 1 then m.flush (([3, 4, 5] : List Int).getD (s % 3) 0) else _) = _
        rw [if_neg (show ¬ (vD s).phase = 0 from by show ¬ s / 3 = 0; omega), if_pos (show (vD s).phase = 1 from by show s / 3 = 1; omega), htg]
        exact hfl
      · by_cases e : q = s % 3
        · subst e
          unfold PM.lasts
          rw [setD_len, hml, if_pos (by omega)]
          show ((m.setD (3 + s % 3) ((m.get (3 + s % 3)).keep fun _ => true)).get (3 + s % 3)).lastsB 33 (s % 3 : Nat) = true
          rw [setD_get5 _ _ _ _ (by rw [hml]; omega), if_pos rfl]
          have hcap : ((m.get (3 + s % 3)).keep fun _ => true).cap = 4 := hk.cap
          have h00 : ((m.get (3 + s % 3)).keep fun _ => true).lasts.getD 0 [] = frame 33 (s % 3) (rowD d (s % 3)) := hk.at_ 0 (by show 0 < 4; decide)
          have hok := hk.ok 0 (33, s % 3, rowD d (s % 3)) rfl
          unfold DM.lastsB
          rw [firstIn_some (k := 0) (by rw [hcap]; show 0 < 4; decide) (by
            show hasB 33 (s % 3 : Nat) (((m.get (3 + s % 3)).keep fun _ => true).lasts.getD 0 []) = true
            rw [h00]
            have := shB_has (33, s % 3, rowD d (s % 3)) hok 33 (s % 3)
            refine Eq.trans this ?_
            simp) (by omega)]
          rfl
        · refine Eq.trans (lasts_get (m := m) (3 + q) (by rw [hml]; omega) (setD_len _ _ _) ?_ _ _) (h.ls q hq (by omega))
          rw [setD_get5 _ _ _ _ (by rw [hml]; omega), if_neg (by omega)]
    · have hg := lsE_tgt d g s (s % 3) hmod
      rw [if_pos (.inr (by omega))] at hg
      have hld : m.load ((3 + s % 3 : Nat) : Int) 33 (s % 3 : Nat) = (rowD d (s % 3), 0) := h.pq.load (3 + s % 3) hlen (33, s % 3, rowD d (s % 3)) 4 _ hg 0 (by decide) (by
        unfold findF
        refine firstIn_some (by decide) ?_ (by omega)
        simp [pS, putF]) (by rfl)
      refine ⟨m, ?_, ?_, fun q hq hqs => h.ls q hq (by omega)⟩
      · show (if (vD s).phase = 0 then _ else if (vD s).phase = 1 then _ else (verM (vD s) m (s % 3), m)) = _
        rw [if_neg (show ¬ (vD s).phase = 0 from by show ¬ s / 3 = 0; omega), if_neg (show ¬ (vD s).phase = 1 from by show ¬ s / 3 = 1; omega)]
        have hv : verM (vD s) m (s % 3) = 0 := by
          show (if (m.load (([3, 4, 5] : List Int).getD (s % 3) 0) 33 (s % 3 : Nat)).2 ≠ 0 then _ else if (oneM 2 1 m 33 [2, 1, 0] (s % 3 : Nat)).2 ≠ 0 then _ else if (m.load (([3, 4, 5] : List Int).getD (s % 3) 0) 33 (s % 3 : Nat)).1 = (oneM 2 1 m 33 [2, 1, 0] (s % 3 : Nat)).1 then 0 else 12) = 0
          rw [htg, hld, hone, if_neg (by simp), if_neg (by simp), if_pos rfl]
        rw [hv]
      · rw [lsE_same d g s (by omega)]
        exact h.pq.more (by omega)

/-! ### ahead of the move -/
structure AD (m : PM) (d : Bytes) (i : Nat) : Prop where
  fuse : m.fuse = -1
  down : m.down = false
  len : m.list.length = 3 + i
  src : ∀ q, q < 3 → HasF 8 (m.get q) 8 (laidS 3 (rencM 2 1 (fullM 2 d)) q).2 ∧ (q < i → (m.get q).loose = [])
  tg : ∀ q, q < i → m.get (3 + q) = tgt d q 0
theorem AD.start (d : Bytes) : AD (laidM 2 1 d 0 0).1 d 0 := by
  have h := laid_PQ 2 1 (by decide) (by decide) (by decide) d
  have e : ∀ q, q < 3 → ((List.range (2 + 1)).map (laidS (2 + 1) (rencM 2 1 (fullM 2 d)))).getD q (0, noS) = laidS 3 (rencM 2 1 (fullM 2 d)) q := fun q hq => range_getD _ _ _ _ hq
  refine ⟨h.fuse, h.down, h.len, fun q hq => ⟨?_, fun h0 => absurd h0 (Nat.not_lt_zero _)⟩, fun q hq => absurd hq (Nat.not_lt_zero _)⟩
  have := h.has q (by simpa using hq)
  rw [e q hq] at this
  exact this
theorem add_get (m : PM) (i : Nat) : (m.add 4).get i = if i = m.list.length then DM.new 4 else m.get i := by
  unfold PM.add PM.get
  by_cases h : i < m.list.length
  · rw [getD_snoc_lt _ _ _ _ h, if_neg (by omega)]
  · by_cases e : i = m.list.length
    · subst e; rw [getD_snoc_eq, if_pos rfl]; rfl
    · rw [if_neg e, List.getD_eq_getElem?_getD, List.getD_eq_getElem?_getD, List.getElem?_eq_none (by simp; omega), List.getElem?_eq_none (by omega)]
theorem AD.next {m : PM} {d : Bytes} {i : Nat} (h : AD m d i) (hi : i < 3) : ∃ m', (m.add 4).flush i = (0, m') ∧ AD m' d (i + 1) := by
  have hal : (m.add 4).list.length = 4 + i := by have := h.len; simp [PM.add]; omega
  have hgi : (m.add 4).get i = m.get i := by rw [add_get, if_neg (by have := h.len; omega)]
  have hu : (m.add 4).use i = 0 := by
    unfold PM.use
    rw [if_pos (by rw [hal]; omega)]
    change (if ((m.add 4).get i).lost then 8 else 0) = 0
    rw [hgi, (h.src i hi).1.alive]; rfl
  have hbu : (m.add 4).burn = (true, m.add 4) := by
    unfold PM.burn
    have hf : (m.add 4).fuse = -1 := h.fuse
    have hd : (m.add 4).down = false := h.down
    rw [if_neg (by rw [hf, hd]; simp), if_neg (by rw [hf]; omega)]
  refine ⟨(m.add 4).setD i (((m.add 4).get i).keep fun _ => true), ?_, ⟨h.fuse, h.down, by rw [setD_len, hal]; omega, fun q hq => ?_, fun q hq => ?_⟩⟩
  · unfold PM.flush
    rw [if_neg (by rw [hu]; simp), hbu, if_pos rfl]
    rfl
  · rw [setD_get5 _ _ _ _ (by rw [hal]; omega)]
    by_cases e : i = q
    · subst e
      rw [if_pos rfl, hgi]
      exact ⟨(h.src i hi).1.keep, fun _ => rfl⟩
    · rw [if_neg e, add_get, if_neg (by have := h.len; omega)]
      exact ⟨(h.src q hq).1, fun hqi => (h.src q hq).2 (by omega)⟩
  · rw [setD_get5 _ _ _ _ (by rw [hal]; omega), if_neg (by omega), add_get]
    by_cases e : 3 + q = m.list.length
    · rw [if_pos e]; rfl
    · rw [if_neg e]; exact h.tg q (by have := h.len; omega)
theorem AD.md {m : PM} {d : Bytes} (h : AD m d 3) (f : Int) : MD { m with fuse := f } f false d 0 :=
  ⟨rfl, h.down, h.len, fun q hq => ⟨(h.src q hq).1, (h.src q hq).2 hq⟩, fun q hq => (h.tg q hq)⟩
theorem AD.calm {m : PM} {d : Bytes} {i : Nat} (h : AD m d i) (hi : i ≤ 3) : m.calm := by
  intro j hj
  rw [h.len] at hj
  by_cases h3 : j < 3
  · have := (h.src j h3).1.few; omega
  · have := h.tg (j - 3) (by omega)
    rw [show 3 + (j - 3) = j by omega] at this
    rw [this]
    have := (tgt_has d (j - 3) 0 (by omega)).few
    omega
theorem AD.calm2 {m : PM} {d : Bytes} {i : Nat} (h : AD m d i) (hi : i < 3) : (m.add 4).calm := by
  intro j hj
  rw [add_get]
  split
  · show ([] : List (Nat × Bytes)).length ≤ _; simp
  · rename_i e
    have hl : (m.add 4).list.length = m.list.length + 1 := by simp [PM.add]
    exact h.calm (by omega) j (by omega)
end Go.Proofs.Fl

namespace Go.Proofs.Fl
open Go.RowKit

theorem PF_fuse {w : World} {B : Nat} {K : Nat → Prop} {pb : Nat} {m : PM} (h : PoolF w B K pb m) (hK : ∀ b, K b → b < w.heap.size) (hB : B ≤ w.heap.size) (n : Int) (hn : n ≤ 9223372036854775807) :
    Calls Try.prog 24 #[.pointer (some ⟨pb, 0, none⟩), .int .i64 n] w fun e w' => e = .returned (.tuple #[]) ∧ PoolF w' B K pb { m with fuse := if 0 ≤ n then n else 0 } ∧ Mod (fun b => B ≤ b ∧ ¬ K b) w w' := by
  obtain ⟨F, h1, h2⟩ := h
  refine (pool_fuse h2 n hn).mono ?_
  rintro e w' ⟨rfl, hs⟩
  exact ⟨rfl, PoolF.step h1 hs hK hB⟩
theorem PF_crash {w : World} {B : Nat} {K : Nat → Prop} {pb : Nat} {m : PM} (h : PoolF w B K pb m) (hK : ∀ b, K b → b < w.heap.size) (hB : B ≤ w.heap.size) (hc : m.calm) (x : Nat) (hx : x ≤ 18446744073709551615) :
    Calls Try.prog 28 #[.pointer (some ⟨pb, 0, none⟩), .int .u64 x] w fun e w' => e = .returned (.tuple #[]) ∧ PoolF w' B K pb (m.crash x) ∧ Mod (fun b => B ≤ b ∧ ¬ K b) w w' := by
  obtain ⟨F, h1, h2⟩ := h
  refine (pool_crash h2 hc x hx).mono ?_
  rintro e w' ⟨rfl, hs⟩
  exact ⟨rfl, PoolF.step h1 hs hK hB⟩
def DownA (B : Nat) (K : Nat → Prop) (pb : Nat) (d : Bytes) (W : World) (i : Nat) (wr : World) : Prop := ∃ pm, PoolF wr B K pb pm ∧ AD pm d i ∧ Mod (fun b => B ≤ b ∧ ¬ K b) W wr
def DownB (B : Nat) (K : Nat → Prop) (pb xb : Nat) (d : Bytes) (f : Nat) (W : World) (i : Nat) (wr : World) : Prop :=
  ∃ pm fz, PoolF wr B K pb pm ∧ MD pm fz false d i ∧ (i ≤ 6 → fz = (f : Int) - i) ∧ 0 ≤ fz ∧ MoveAt wr K xb (vD i) ∧ Mod (fun b => b = xb ∨ (B ≤ b ∧ ¬ K b)) W wr
/-- behind the first move: however it came to its end. -/
def DownC (B : Nat) (K : Nat → Prop) (pb xb : Nat) (d : Bytes) (W wr : World) : Prop := ∃ pm fz dn s, PoolF wr B K pb pm ∧ MD pm fz dn d s ∧ Mod (fun b => b = xb ∨ (B ≤ b ∧ ¬ K b)) W wr
def DownD (B : Nat) (K : Nat → Prop) (pb xb : Nat) (d : Bytes) (g : Nat → Bool) (W : World) (i : Nat) (wr : World) : Prop := ∃ pm, PoolF wr B K pb pm ∧ EI pm d g i ∧ MoveAt wr K xb (vD i) ∧ Mod (fun b => b = xb ∨ (B ≤ b ∧ ¬ K b)) W wr

set_option maxHeartbeats 8000000 in
set_option maxRecDepth 100000 in
theorem down_law {dv : Value} {d : Bytes} {w : World} (hD : DatB w (fun b => b < w.heap.size) dv d) (hd0 : d.length ≤ maxLen) (xf : UInt8) (kp : Nat) (hkp : kp ≤ 18446744073709551615) :
    Calls Try.prog 17 #[dv, .int .u8 xf.toNat, .int .u64 kp] w fun e w' => e = .returned (.bool true) ∧ Below w.heap.size w w' := by
  have HD := Lib.hid hD
  obtain ⟨dao, dc, rfl⟩ := hD.shape
  clear hD
  have hd0i : (d.length : Int) ≤ 9223372036854775807 := by unfold maxLen at hd0; omega
  by_cases hbig : 100 < d.length
  · have hbi : (100 : Int) < (d.length : Int) := by omega
    clear hd0
    go_enter Try.func17, Try.ntmps17
    go_wp2_with (go_at_call 51; refine (answers18 _).mono ?_; rintro e w1 ⟨rfl, hb1⟩)
    go_ret
    exact ⟨rfl, hb1⟩
  have hbi : ¬ (100 : Int) < (d.length : Int) := by omega
  clear hd0
  have hxf := xf.toNat_lt
  obtain ⟨f, hf9⟩ : ∃ f, xf.toNat % 9 = f := ⟨_, rfl⟩
  have hfi : (xf.toNat : Int) % 9 = (f : Int) := by omega
  have hfl : f < 9 := by omega
  have HKP := Lib.hid hkp
  clear hf9 hkp
  go_enter Try.func17, Try.ntmps17
  go_wp2_with (fail)
  refine (laid18_any 2 1 (by decide) (by decide) (by decide) HD.out (by omega) 0 0).mono ?_
  rintro e w2 ⟨pb, lv, tv, K, rfl, hK, hP, hN, hT, hb⟩
  rw [show (2 + 1 : Nat) = 3 from rfl] at *
  have hpq := AD.start d
  have hrl := laidM_rows 2 1 d 0 0
  have hrr : ∀ j, j < 3 → (laidM 2 1 d 0 0).2.getD j [] = rowD d j := fun j hj => by
    rw [laidM_row 2 1 d 0 0 j hj]; unfold haveB; rw [bit0]; rfl
  generalize (laidM 2 1 d 0 0).1 = pm at *
  generalize (laidM 2 1 d 0 0).2 = hav at *
  rw [show (2 + 1 : Nat) = 3 from rfl] at hrl
  obtain ⟨lb, lo, lc, rfl, lS, hlbl, _, hlc⟩ := Sv.cellAt hN (by decide)
  rw [show ((locsM 3 3).map (Value.int .i64)).length = 3 from rfl] at *
  have hlc' : ∀ j, j < 3 → w2.cell? ⟨lb, lo + j, none⟩ = some (.int .i64 ((2 - j : Nat) : Int)) := fun j hj => by
    rw [hlc j hj]
    have : j = 0 ∨ j = 1 ∨ j = 2 := by omega
    rcases this with rfl | rfl | rfl <;> rfl
  obtain ⟨tb, to, tc, rfl, tS, htb, _, htr⟩ := hT.cellAt (by omega)
  rw [hrl] at htr ⊢
  obtain ⟨W, hW⟩ : ∃ W, w2.alloc (.cells #[.int .i64 33, .int .i64 0, .slice (some ⟨lb, lo, none⟩) 3 lc] 67) = W := ⟨_, rfl⟩
  have hbW : Below w2.heap.size w2 W := by rw [← hW]; exact (Below.refl _ _).alloc (Nat.le_refl _) _
  have hcW : W.heap[w2.heap.size]? = some (.cells #[.int .i64 33, .int .i64 0, .slice (some ⟨lb, lo, none⟩) 3 lc] 67 (0, 0)) := by rw [← hW]; exact heap_alloc_new _ _
  have hbs := hb.size
  obtain ⟨K', hK'⟩ : ∃ K' : Nat → Prop, (fun b => K b ∨ (w2.heap.size ≤ b ∧ b < W.heap.size)) = K' := ⟨_, rfl⟩
  have hPW := hP.more hbW
  rw [hK'] at hPW
  have k3 : ∀ b, K' b → b < W.heap.size := fun b h => by
    rw [← hK'] at h
    have := hbW.size
    rcases h with h | h
    · have := hK b h; omega
    · omega
  have ka : ∀ b, K b → K' b := fun b h => by rw [← hK']; exact .inl h
  have k2 : K' w2.heap.size := by rw [← hK']; exact .inr ⟨Nat.le_refl _, blk_lt hcW⟩
  have hNW : Ns W K' (.slice (some ⟨lb, lo, none⟩) 3 lc) (locsM 3 3) := Sv.mono (hN.below hbW) (fun b _ h => ka b h)
  have hbw := hb.trans (hbW.mono hbs)
  have HI0 := Lib.hid (show DownA w.heap.size K' pb d W 0 W from ⟨pm, hPW, hpq, Mod.refl _ _⟩)
  have HCW := Lib.hid hcW; have HNW := Lib.hid hNW; have HBW := Lib.hid hbw; have HK3 := Lib.hid k3
  have HLC := Lib.hid (fun j (hj : j < 3) => (hbW.cell (p := ⟨lb, lo + j, none⟩) hlbl).trans (hlc' j hj))
  have HTR := Lib.hid (fun j (hj : j < 3) => by
    obtain ⟨ra, rc, c1, c2⟩ := htr j hj
    rw [hrr j hj, rowD_len d j hj] at c1 c2
    exact (⟨ra, rc, (hbW.cell (p := ⟨tb, to + j, none⟩) htb).trans c1, (c2.below hbW).mono (fun b _ h => ka b h)⟩ : ∃ ra rc, W.cell? ⟨tb, to + j, none⟩ = some (.slice ra 8 rc) ∧ Bs W K' (.slice ra 8 rc) (rowD d j)))
  have hwW := hbw.size
  have htbW := Nat.lt_of_lt_of_le htb hbW.size
  have hlbW := Nat.lt_of_lt_of_le hlbl hbW.size
  have klb := ka _ lS
  have ktb := ka _ tS
  clear hcW hNW hbw k3 hK' hPW hbW hK hP hN hT hb hbs ka hlc hlc' htr hrr hrl hpq
  unfold stripeV
  go_wp2_with (fail)
  clear hW
  go_loopw [10] (fun i wr => ∃ j : Nat, j ≤ 3 ∧ i = .int .i64 j ∧ DownA w.heap.size K' pb d W j wr) (fun i _ => 3 - (intOf i).toNat)
  case atStart => exact ⟨0, by omega, rfl, HI0.out⟩
  case round =>
    obtain ⟨j, hj, rfl, pm, hP, hpq, hm⟩ := hrel
    have hms := hm.size
    by_cases hlt : j < 3
    · have hadd := PF_add hP (fun b h => Nat.lt_of_lt_of_le (HK3.out b h) hms) (Nat.le_trans hwW hms) 4 (by rw [hpq.len]; omega)
      obtain ⟨pm', e1, hq1⟩ := hpq.next hlt
      have HADD := Lib.hid hadd; have HQ := Lib.hid hpq; have HQ1 := Lib.hid hq1; have HM := Lib.hid hm; have E1 := Lib.hid e1
      clear hadd hm hP hpq hq1 e1
      go_wp2_with (fail)
      refine HADD.out.mono ?_
      rintro e w3 ⟨rfl, hP3, hm3⟩
      have hm3s := hm3.size
      have hfl3 := PF_flush hP3 (fun b h => Nat.lt_of_lt_of_le (Nat.lt_of_lt_of_le (HK3.out b h) hms) hm3s) (Nat.le_trans (Nat.le_trans hwW hms) hm3s) (HQ.out.calm2 hlt) j
      rw [E1.out] at hfl3
      have HFL3 := Lib.hid hfl3; have HM3 := Lib.hid (HM.out.trans hm3)
      clear hP3 hm3 hfl3 HADD HM
      go_wp2_with (fail)
      refine HFL3.out.mono ?_
      rintro e w4 ⟨rfl, hP4, hm4⟩
      have HR := Lib.hid (show DownA w.heap.size K' pb d W (j + 1) w4 from ⟨pm', hP4, HQ1.out, HM3.out.trans hm4⟩)
      clear hP4 hm4 HFL3 HM3
      go_wp2
      go_roundw
      case rel => exact ⟨j + 1, by omega, by go_num, HR.out⟩
      case measure => simp [intOf]; omega
    · obtain rfl : j = 3 := by omega
      have hc3 := blk_mod hm HCW.out (fun h => h.2 k2)
      have hN3 : Ns wr K' (.slice (some ⟨lb, lo, none⟩) 3 lc) (locsM 3 3) := Sv.kept HNW.out hm (fun b _ h h' => h'.2 h)
      have hb3 := below_mod HBW.out hwW hm (fun b h => h.1)
      have hk3 : ∀ b, K' b → b < wr.heap.size := fun b h => Nat.lt_of_lt_of_le (HK3.out b h) hms
      have HC3 := Lib.hid hc3; have HN3 := Lib.hid hN3; have HB3 := Lib.hid hb3; have HP3 := Lib.hid hP; have HAD := Lib.hid hpq; have HKR := Lib.hid hk3
      have HL3 := Lib.hid (fun j (hj : j < 3) => (hm.cell (p := ⟨lb, lo + j, none⟩) hlbW (fun h => h.2 klb)).trans (HLC.out j hj))
      have HT3 := Lib.hid (fun j (hj : j < 3) => by
        obtain ⟨ra, rc, c1, c2⟩ := HTR.out j hj
        exact (⟨ra, rc, (hm.cell (p := ⟨tb, to + j, none⟩) htbW (fun h => h.2 ktb)).trans c1, (c2.kept hm (fun b _ h h' => h'.2 h)).mono (fun b hb h => ⟨h, hb⟩)⟩ : ∃ ra rc, wr.cell? ⟨tb, to + j, none⟩ = some (.slice ra 8 rc) ∧ Bs wr (fun b => K' b ∧ b < wr.heap.size) (.slice ra 8 rc) (rowD d j)))
      have hlb3 := Nat.lt_of_lt_of_le hlbW hms
      have htb3 := Nat.lt_of_lt_of_le htbW hms
      clear hc3 hN3 hb3 hP hpq hm hk3 HCW HNW HBW HI0 HK3 hms HLC HTR
      obtain ⟨w3, hw3⟩ : ∃ w3, w3 = wr := ⟨_, rfl⟩
      subst hw3
      have s0 : w3.cell? ⟨w2.heap.size, 0, none⟩ = some (.int .i64 33) := blk_cell HC3.out rfl
      have s1 : w3.cell? ⟨w2.heap.size, 1, none⟩ = some (.int .i64 0) := blk_cell HC3.out rfl
      have s2 : w3.cell? ⟨w2.heap.size, 2, none⟩ = some (.slice (some ⟨lb, lo, none⟩) 3 lc) := blk_cell HC3.out rfl
      have hbl : Below w3.heap.size w3 (w3.alloc (.cells #[.int .i64 3, .int .i64 4, .int .i64 5] 3)) := (Below.refl _ _).alloc (Nat.le_refl _) _
      have HNEW := Lib.hid (movenew_any (w := w3.alloc (.cells #[.int .i64 3, .int .i64 4, .int .i64 5] 3)) 2 1 (by decide) (by decide) (Sv.mono (HN3.out.below hbl) (T := fun _ => True) (fun _ _ _ => trivial)) (Sv.mono (Ns.lit w3 3 (0, 0) [3, 4, 5] #[.int .i64 3, .int .i64 4, .int .i64 5] rfl (by decide)) (T := fun _ => True) (fun _ _ _ => trivial)) (by decide) (by decide))
      clear hbl
      go_wp2_with (fail)
      refine HNEW.out.mono ?_
      rintro e w4 ⟨xb, rfl, hM, hb4⟩
      have hbl : Below w3.heap.size w3 (w3.alloc (.cells #[.int .i64 3, .int .i64 4, .int .i64 5] 3)) := (Below.refl _ _).alloc (Nat.le_refl _) _
      have hxb3 : w3.heap.size ≤ xb := Nat.le_trans hbl.size (by obtain ⟨_, _, _, h, _⟩ := hM; exact h)
      have hb34 : Below w3.heap.size w3 w4 := hbl.trans (hb4.mono hbl.size)
      have hs34 := hb34.size
      have hA3 := HB3.out.size
      obtain ⟨K4, hK4⟩ : ∃ K4 : Nat → Prop, (fun b => K' b ∨ (w3.heap.size ≤ b ∧ b < w4.heap.size)) = K4 := ⟨_, rfl⟩
      have hP4 := HP3.out.more hb34
      rw [hK4] at hP4
      have k4 : ∀ b, K4 b → b < w4.heap.size := fun b h => by
        rw [← hK4] at h
        rcases h with h | h
        · have := HKR.out b h; omega
        · omega
      have k4a : ∀ b, K' b → K4 b := fun b h => by rw [← hK4]; exact .inl h
      have hM4 : MoveAt w4 K4 xb (vD 0) := MoveAt.mono hM (fun b hb h => by rw [← hK4]; exact .inr ⟨Nat.le_trans hbl.size h, hb⟩)
      have hb04 := HB3.out.trans (hb34.mono HB3.out.size)
      have hfu := PF_fuse hP4 k4 hb04.size f (by omega)
      rw [if_pos (show (0 : Int) ≤ (f : Int) by omega)] at hfu
      have HFU := Lib.hid hfu; have HM4 := Lib.hid hM4; have HB04 := Lib.hid hb04; have K4L := Lib.hid k4
      have hn3 : Ns w3 (fun b => K' b ∧ b < w3.heap.size) (.slice (some ⟨lb, lo, none⟩) 3 lc) (locsM 3 3) := Sv.mono HN3.out (fun b hb h => ⟨h, hb⟩)
      have hn4 : Ns w4 (fun b => K4 b ∧ b < w3.heap.size) (.slice (some ⟨lb, lo, none⟩) 3 lc) (locsM 3 3) := Sv.mono (hn3.below hb34) (fun b _ h => ⟨k4a b h.1, h.2⟩)
      have HN4 := Lib.hid hn4; have HC4 := Lib.hid ((hb34.block _ (blk_lt HC3.out)).trans HC3.out)
      have HL4 := Lib.hid (fun j (hj : j < 3) => (hb34.cell (p := ⟨lb, lo + j, none⟩) hlb3).trans (HL3.out j hj))
      have HT4 := Lib.hid (fun j (hj : j < 3) => by
        obtain ⟨ra, rc, c1, c2⟩ := HT3.out j hj
        exact (⟨ra, rc, (hb34.cell (p := ⟨tb, to + j, none⟩) htb3).trans c1, (c2.below hb34).mono (fun b _ h => ⟨k4a b h.1, h.2⟩)⟩ : ∃ ra rc, w4.cell? ⟨tb, to + j, none⟩ = some (.slice ra 8 rc) ∧ Bs w4 (fun b => K4 b ∧ b < w3.heap.size) (.slice ra 8 rc) (rowD d j)))
      have hxw : w.heap.size ≤ xb := by omega
      have hs04 := hb04.size
      have klb4 := k4a _ klb
      have ktb4 := k4a _ ktb
      have k24 := k4a _ k2
      have hcl3 := blk_lt HC3.out
      have hx2 : xb ≠ w2.heap.size := by omega
      have hxl : xb ≠ lb := by omega
      have hxt : xb ≠ tb := by omega
      have hlb4 := Nat.lt_of_lt_of_le hlb3 hs34
      have htb4 := Nat.lt_of_lt_of_le htb3 hs34
      clear hfu hn3 hn4 hM4 hb04 k4 hK4 hP4 hb34 hb4 hbl hM HP3 HB3 HC3 HN3 s0 s1 s2 HNEW HKR HL3 HT3 k4a
      go_wp2_with (fail)
      refine HFU.out.mono ?_
      rintro e w5 ⟨rfl, hP5, hm5⟩
      have HI5 := Lib.hid (show DownB w.heap.size K4 pb xb d f w4 0 w5 from ⟨_, f, hP5, HAD.out.md f, fun _ => by simp, by omega, HM4.out.kept hm5 (fun b h h' => h'.2 h), hm5.mono (fun b _ h => .inr h)⟩)
      clear hP5 hm5 HFU HM4 HAD
      go_wp2
      go_loopw [12] (fun i wr => ∃ j : Nat, j ≤ 9 ∧ i = .int .i64 j ∧ DownB w.heap.size K4 pb xb d f w4 j wr) (fun i _ => 9 - (intOf i).toNat)
      case atStart => exact ⟨0, by omega, rfl, HI5.out⟩
      case round =>
        obtain ⟨j, hj, rfl, pm, fz, hP, hmd, hfz, hf0, hM, hm⟩ := hrel
        have hms := hm.size
        have hk : ∀ b, K4 b → b < wr.heap.size := fun b h => Nat.lt_of_lt_of_le (K4L.out b h) hms
        have hm3 : j % 3 < 3 := Nat.mod_lt _ (by decide)
        have hps : ([0, 1, 2] : List Int).getD (j % 3) 0 = ((j % 3 : Nat) : Int) := by
          have : j % 3 = 0 ∨ j % 3 = 1 ∨ j % 3 = 2 := by omega
          rcases this with h | h | h <;> rw [h] <;> rfl
        by_cases hgo : j < 9 ∧ ¬ (j < 6 ∧ fz = 0)
        · obtain ⟨hlt, hne⟩ := hgo
          have hst : ∃ pm' fz', doM (vD j) pm (j % 3) = (0, pm') ∧ MD pm' fz' false d (j + 1) ∧ (j + 1 ≤ 6 → fz' = (f : Int) - (j + 1 : Nat)) ∧ 0 ≤ fz' := by
            by_cases h6 : j < 6
            · have hz : ¬ fz = 0 := fun e => hne ⟨h6, e⟩
              have := stepD hmd hf0 h6
              rw [if_neg hz] at this
              exact ⟨_, fz - 1, this, hmd.next h6 rfl rfl _ rfl, fun _ => by rw [hfz (by omega)]; omega, by omega⟩
            · obtain ⟨e1, e2⟩ := lookD hmd (by omega) hlt
              exact ⟨pm, fz, e1, e2, fun h => by omega, hf0⟩
          obtain ⟨pm', fz', e1, hq1, hfz1, hf1⟩ := hst
          have hnx := next_step hP hk (by omega) hmd.calm (vD_ok j) hM (j % 3) (by show j % 3 < 2 + 1; exact hm3) (by show j / 3 < 3; omega) (by show j % 3 < 3; exact hm3) hps (by show 3 ≤ 1000; decide)
          rw [e1, if_pos rfl, vD_adv j hlt] at hnx
          have HNX := Lib.hid hnx; have HQ1 := Lib.hid hq1; have HMM := Lib.hid hm; have HF1 := Lib.hid hfz1
          clear hnx hq1 hm hP hM hmd e1 hk hm3 hps hne hfz hf0 hfz1
          go_wp2_with (fail)
          refine HNX.out.mono ?_
          rintro e w6 ⟨rfl, hP6, hM6, hm6⟩
          have HR := Lib.hid (show DownB w.heap.size K4 pb xb d f w4 (j + 1) w6 from ⟨pm', fz', hP6, HQ1.out, HF1.out, hf1, hM6, HMM.out.trans hm6⟩)
          clear hP6 hM6 hm6 HNX HMM HQ1 HF1
          go_wp2
          go_roundw
          case rel => exact ⟨j + 1, by omega, by go_num, HR.out⟩
          case measure => simp [intOf]; omega
        · have hcase : (j < 6 ∧ fz = 0) ∨ j = 9 := by
            by_cases h9 : j < 9
            · by_cases h0 : j < 6 ∧ fz = 0
              · exact .inl h0
              · exact absurd ⟨h9, h0⟩ hgo
            · exact .inr (by omega)
          clear hgo
          rcases hcase with ⟨h6, rfl⟩ | rfl
          case' inl =>
            have hfj : f = j := by have := hfz (by omega); omega
            subst hfj
            have hst := stepD hmd hf0 h6
            rw [if_pos rfl] at hst
            have hnx := next_step hP hk (by omega) hmd.calm (vD_ok f) hM (f % 3) (by show f % 3 < 2 + 1; exact hm3) (by show f / 3 < 3; omega) (by show f % 3 < 3; exact hm3) hps (by show 3 ≤ 1000; decide)
            rw [hst, if_neg (by show ¬ (9 : Nat) = 0; decide)] at hnx
            have hmd2 : MD { pm with down := true } 0 true d f := ⟨hmd.fuse, rfl, hmd.len, hmd.src, hmd.tgt_⟩
            have HNX := Lib.hid hnx; have HMD2 := Lib.hid hmd2; have HMM := Lib.hid hm
            clear hnx hm hP hM hmd hst hk hm3 hps hfz hf0 hmd2
            go_wp2_with (fail)
            refine HNX.out.mono ?_
            rintro e w6 ⟨rfl, hP6, hM6, hm6⟩
            have HCC := Lib.hid (show DownC w.heap.size K4 pb xb d w4 w6 from ⟨_, _, _, _, hP6, HMD2.out, HMM.out.trans hm6⟩)
            clear hP6 hM6 hm6 HNX HMD2 HMM
            obtain ⟨wx, hwx⟩ : ∃ wx, wx = w6 := ⟨_, rfl⟩
            subst hwx
          case' inr =>
            have HCC := Lib.hid (show DownC w.heap.size K4 pb xb d w4 wr from ⟨_, _, _, _, hP, hmd, hm⟩)
            clear hP hm hM hmd hk hm3 hps hfz hf0
            obtain ⟨wx, hwx⟩ : ∃ wx, wx = wr := ⟨_, rfl⟩
            subst hwx
          all_goals
            obtain ⟨pmc, fzc, dnc, sc, hPc, hmdc, hmc⟩ := HCC.out
            have hsc := hmc.size
            have hkc : ∀ b, K4 b → b < wx.heap.size := fun b h => Nat.lt_of_lt_of_le (K4L.out b h) hsc
            have hcr := PF_crash hPc hkc (by omega) hmdc.calm kp HKP.out
            obtain ⟨g, hg⟩ := crashD hmdc kp
            have HCR := Lib.hid hcr; have HG := Lib.hid hg; have HMC := Lib.hid hmc
            clear hPc hkc hcr hg hmc hmdc HCC
            generalize pmc.crash kp = pm7 at *
            go_wp2_with (fail)
            refine HCR.out.mono ?_
            rintro e w7 ⟨rfl, hP7, hm7⟩
            have hmT := HMC.out.trans (hm7.mono (fun b _ h => .inr h))
            have hs7 := hmT.size
            have HC7 := Lib.hid (blk_mod hmT HC4.out (fun h => h.elim (fun h => hx2 h.symm) (fun h => h.2 k24)))
            have HB07 := Lib.hid (below_mod HB04.out hs04 hmT (fun b h => h.elim (fun h => by omega) (fun h => h.1)))
            have HL7 := Lib.hid (fun j (hj : j < 3) => (hmT.cell (p := ⟨lb, lo + j, none⟩) hlb4 (fun h => h.elim (fun h => hxl h.symm) (fun h => h.2 klb4))).trans (HL4.out j hj))
            have HT7 := Lib.hid (fun j (hj : j < 3) => by
              obtain ⟨ra, rc, c1, c2⟩ := HT4.out j hj
              exact (⟨ra, rc, (hmT.cell (p := ⟨tb, to + j, none⟩) htb4 (fun h => h.elim (fun h => hxt h.symm) (fun h => h.2 ktb4))).trans c1, (c2.kept hmT (fun b _ h h' => h'.elim (fun e => by omega) (fun h' => h'.2 h.1))).mono (fun _ _ _ => trivial)⟩ : ∃ ra rc, w7.cell? ⟨tb, to + j, none⟩ = some (.slice ra 8 rc) ∧ Bs w7 (fun _ => True) (.slice ra 8 rc) (rowD d j)))
            have hn7 : Ns w7 (fun b => K4 b ∧ b < w3.heap.size) (.slice (some ⟨lb, lo, none⟩) 3 lc) (locsM 3 3) := Sv.kept HN4.out hmT (fun b _ h h' => h'.elim (fun e => by omega) (fun h' => h'.2 h.1))
            have HN7 := Lib.hid hn7
            have HK7 := Lib.hid (fun b (h : K4 b) => Nat.lt_of_lt_of_le (K4L.out b h) hs7)
            have HP7 := Lib.hid hP7
            have hlb7 := Nat.lt_of_lt_of_le hlb4 hs7
            have htb7 := Nat.lt_of_lt_of_le htb4 hs7
            clear hn7 hP7 hm7 hmT HCR HMC HC4 HB04 HL4 HT4 K4L HN4
            go_wp2
            go_loopw [15] (fun i wr => ∃ j : Nat, j ≤ 3 ∧ i = .int .i64 j ∧ Below w7.heap.size w7 wr) (fun i _ => 3 - (intOf i).toNat)
            case atStart => exact ⟨0, by omega, rfl, Below.refl _ _⟩
            case round =>
              obtain ⟨j, hj, rfl, hbr⟩ := hrel
              by_cases hlt : j < 3
              · have hbc := (hbr.block _ (blk_lt HC7.out)).trans HC7.out
                have s2 : wr.cell? ⟨w2.heap.size, 2, none⟩ = some (.slice (some ⟨lb, lo, none⟩) 3 lc) := blk_cell hbc rfl
                have s3 := (hbr.cell (p := ⟨lb, lo + j, none⟩) hlb7).trans (HL7.out j hlt)
                have hld : pm7.load ((2 - j : Nat) : Int) 33 j = (rowD d j, 0) := by
                  have := srcE HG.out j hlt
                  rw [show 3 - 1 - j = 2 - j by omega] at this
                  exact this
                have hcl := L_load2 (HP7.out.toL0.ext hbr) (HG.out.calm (by decide)) ((2 - j : Nat) : Int) 33 j
                rw [hld] at hcl
                obtain ⟨ra, rc, c1, hB⟩ := HT7.out j hlt
                have x1 := (hbr.cell (p := ⟨tb, to + j, none⟩) htb7).trans c1
                have h8 := rowD_len d j hlt
                have hx := hB.below hbr
                have htr := Nat.lt_of_lt_of_le htb7 hbr.size
                generalize rowD d j = row at *
                have HCL := Lib.hid hcl; have HX := Lib.hid hx; have X1 := Lib.hid x1; have HBR := Lib.hid hbr; have H8 := Lib.hid h8
                clear hcl hld c1 hB x1 hbc hbr h8 hx
                go_wp2_with (fail)
                refine HCL.out.mono ?_
                rintro e w10 ⟨v10, rfl, hv10, hb10⟩
                obtain ⟨v10a, v10c, rfl⟩ := hv10.shape
                have x10 := (hb10.cell (p := ⟨tb, to + j, none⟩) htr).trans X1.out
                have HX10 := Lib.hid (HX.out.below hb10); have HV10 := Lib.hid hv10; have HB10 := Lib.hid (HBR.out.trans (hb10.mono HBR.out.size))
                have t1 : row.length ≤ 1000000 := by rw [H8.out]; decide
                clear hv10 hb10 HCL
                go_wp2_with (fail)
                refine (same_same HV10.out HX10.out t1).mono ?_
                rintro e w11 ⟨rfl, hb11⟩
                have HB11 := Lib.hid (HB10.out.trans (hb11.mono HB10.out.size))
                clear hb11 HB10 HV10 HX10 x10
                go_wp2
                go_roundw
                case rel => exact ⟨j + 1, by omega, by go_num, HB11.out⟩
                case measure => simp [intOf]; omega
              · obtain rfl : j = 3 := by omega
                have hbc := (hbr.block _ (blk_lt HC7.out)).trans HC7.out
                have s0 : wr.cell? ⟨w2.heap.size, 0, none⟩ = some (.int .i64 33) := blk_cell hbc rfl
                have s1 : wr.cell? ⟨w2.heap.size, 1, none⟩ = some (.int .i64 0) := blk_cell hbc rfl
                have s2 : wr.cell? ⟨w2.heap.size, 2, none⟩ = some (.slice (some ⟨lb, lo, none⟩) 3 lc) := blk_cell hbc rfl
                have hnr : Ns wr (fun b => K4 b ∧ b < w3.heap.size) (.slice (some ⟨lb, lo, none⟩) 3 lc) (locsM 3 3) := HN7.out.below hbr
                have HNR := Lib.hid hnr
                obtain ⟨Kr, hKr⟩ : ∃ Kr : Nat → Prop, (fun b => K4 b ∨ (w7.heap.size ≤ b ∧ b < wr.heap.size)) = Kr := ⟨_, rfl⟩
                have hPr := HP7.out.more hbr
                rw [hKr] at hPr
                have hbrs := hbr.size
                have kr : ∀ b, Kr b → b < wr.heap.size := fun b h => by
                  rw [← hKr] at h
                  rcases h with h | h
                  · have := HK7.out b h; omega
                  · omega
                have HKR := Lib.hid kr; have HPR := Lib.hid hPr; have HBR := Lib.hid (HB07.out.trans (hbr.mono HB07.out.size))
                clear hnr hKr hPr kr hbr hbc HC7 HB07 HL7 HT7 HN7 HK7 HP7
                obtain ⟨w8, hw8⟩ : ∃ w8, w8 = wr := ⟨_, rfl⟩
                subst hw8
                have hbl : Below w8.heap.size w8 (w8.alloc (.cells #[.int .i64 3, .int .i64 4, .int .i64 5] 3)) := (Below.refl _ _).alloc (Nat.le_refl _) _
                have HNEW := Lib.hid (movenew_any (w := w8.alloc (.cells #[.int .i64 3, .int .i64 4, .int .i64 5] 3)) 2 1 (by decide) (by decide) (Sv.mono (HNR.out.below hbl) (T := fun _ => True) (fun _ _ _ => trivial)) (Sv.mono (Ns.lit w8 3 (0, 0) [3, 4, 5] #[.int .i64 3, .int .i64 4, .int .i64 5] rfl (by decide)) (T := fun _ => True) (fun _ _ _ => trivial)) (by decide) (by decide))
                clear hbl
                go_wp2_with (fail)
                refine HNEW.out.mono ?_
                rintro e w9 ⟨yb, rfl, hM, hb9⟩
                have hbl : Below w8.heap.size w8 (w8.alloc (.cells #[.int .i64 3, .int .i64 4, .int .i64 5] 3)) := (Below.refl _ _).alloc (Nat.le_refl _) _
                have hyb8 : w8.heap.size ≤ yb := Nat.le_trans hbl.size (by obtain ⟨_, _, _, h, _⟩ := hM; exact h)
                have hb89 : Below w8.heap.size w8 w9 := hbl.trans (hb9.mono hbl.size)
                have hs89 := hb89.size
                have hA8 := HBR.out.size
                obtain ⟨K9, hK9⟩ : ∃ K9 : Nat → Prop, (fun b => Kr b ∨ (w8.heap.size ≤ b ∧ b < w9.heap.size)) = K9 := ⟨_, rfl⟩
                have hP9 := HPR.out.more hb89
                rw [hK9] at hP9
                have k9 : ∀ b, K9 b → b < w9.heap.size := fun b h => by
                  rw [← hK9] at h
                  rcases h with h | h
                  · have := HKR.out b h; omega
                  · omega
                have hM9 : MoveAt w9 K9 yb (vD 0) := MoveAt.mono hM (fun b hb h => by rw [← hK9]; exact .inr ⟨Nat.le_trans hbl.size h, hb⟩)
                have hb09 := HBR.out.trans (hb89.mono HBR.out.size)
                have hyw : w.heap.size ≤ yb := by omega
                have hs09 := hb09.size
                have HI9 := Lib.hid (show DownD w.heap.size K9 pb yb d g w9 0 w9 from ⟨pm7, hP9, ⟨HG.out, fun q _ h => by omega⟩, hM9, Mod.refl _ _⟩)
                have HK9 := Lib.hid k9; have HB09 := Lib.hid hb09
                clear hM9 hb09 k9 hK9 hP9 hb89 hb9 hbl hM HPR HBR HG HKR HNEW HNR s0 s1 s2
                go_wp2
                go_loopw [19] (fun i wr => ∃ j : Nat, j ≤ 9 ∧ i = .int .i64 j ∧ DownD w.heap.size K9 pb yb d g w9 j wr) (fun i _ => 9 - (intOf i).toNat)
                case atStart => exact ⟨0, by omega, rfl, HI9.out⟩
                case round =>
                  obtain ⟨j, hj, rfl, pm, hP, hei, hM, hm⟩ := hrel
                  have hms := hm.size
                  have hk : ∀ b, K9 b → b < wr.heap.size := fun b h => Nat.lt_of_lt_of_le (HK9.out b h) hms
                  by_cases hlt : j < 9
                  · have hm3 : j % 3 < 3 := Nat.mod_lt _ (by decide)
                    have hps : ([0, 1, 2] : List Int).getD (j % 3) 0 = ((j % 3 : Nat) : Int) := by
                      have : j % 3 = 0 ∨ j % 3 = 1 ∨ j % 3 = 2 := by omega
                      rcases this with h | h | h <;> rw [h] <;> rfl
                    obtain ⟨pm', e1, hq1⟩ := stepE hei hlt
                    have hnx := next_step hP hk (by omega) (hei.pq.calm (by omega)) (vD_ok j) hM (j % 3) (by show j % 3 < 2 + 1; exact hm3) (by show j / 3 < 3; omega) (by show j % 3 < 3; exact hm3) hps (by show 3 ≤ 1000; decide)
                    rw [e1, if_pos rfl, vD_adv j hlt] at hnx
                    have HNX := Lib.hid hnx; have HQ1 := Lib.hid hq1; have HMM := Lib.hid hm
                    clear hnx hq1 hm hP hM hei e1 hk hm3 hps
                    go_wp2_with (fail)
                    refine HNX.out.mono ?_
                    rintro e w10 ⟨rfl, hP10, hM10, hm10⟩
                    have HR := Lib.hid (show DownD w.heap.size K9 pb yb d g w9 (j + 1) w10 from ⟨pm', hP10, HQ1.out, hM10, HMM.out.trans hm10⟩)
                    clear hP10 hM10 hm10 HNX HMM HQ1
                    go_wp2
                    go_roundw
                    case rel => exact ⟨j + 1, by omega, by go_num, HR.out⟩
                    case measure => simp [intOf]; omega
                  · obtain rfl : j = 9 := by omega
                    have hb10 := below_mod HB09.out hs09 hm (fun b h => h.elim (fun h => by omega) (fun h => h.1))
                    have hnx := next_ready hM (.pointer (some ⟨pb, 0, none⟩)) (.inl rfl)
                    have l0 := hei.ls 0 (by decide) (by decide)
                    have l1 := hei.ls 1 (by decide) (by decide)
                    have l2 := hei.ls 2 (by decide) (by decide)
                    have HNX := Lib.hid hnx; have HB10 := Lib.hid hb10; have HP10 := Lib.hid hP.toL0; have L0 := Lib.hid l0; have L1 := Lib.hid l1; have L2 := Lib.hid l2
                    clear hnx hb10 hP hM hm hei l0 l1 l2 hk HB09 HI9 HK9
                    obtain ⟨wA, hwA⟩ : ∃ wA, wA = wr := ⟨_, rfl⟩
                    subst hwA
                    go_wp2_with (fail)
                    refine HNX.out.mono ?_
                    rintro e w10 ⟨rfl, rfl⟩
                    go_wp2_with (fail)
                    refine (answers18 _).mono ?_
                    rintro e w11 ⟨rfl, hb11⟩
                    have e0 : pm.lasts 3 33 0 = true := L0.out
                    have e1 : pm.lasts 4 33 1 = true := L1.out
                    have e2 : pm.lasts 5 33 2 = true := L2.out
                    have hc0 := L_lasts2 (HP10.out.ext hb11) 3 33 0
                    rw [e0] at hc0
                    have HC0 := Lib.hid hc0; have E1 := Lib.hid e1; have E2 := Lib.hid e2; have HB11 := Lib.hid hb11
                    clear hc0 e0 e1 e2 hb11 L0 L1 L2
                    go_wp2_with (fail)
                    refine HC0.out.mono ?_
                    rintro e w12 ⟨rfl, hb12⟩
                    have hb12' := HB11.out.trans (hb12.mono HB11.out.size)
                    have hc1 := L_lasts2 (HP10.out.ext hb12') 4 33 1
                    rw [E1.out] at hc1
                    have HC1 := Lib.hid hc1; have HB12 := Lib.hid hb12'
                    clear hc1 hb12 hb12' HB11 HC0
                    go_wp2_with (fail)
                    refine HC1.out.mono ?_
                    rintro e w13 ⟨rfl, hb13⟩
                    have hb13' := HB12.out.trans (hb13.mono HB12.out.size)
                    have hc2 := L_lasts2 (HP10.out.ext hb13') 5 33 2
                    rw [E2.out] at hc2
                    have HC2 := Lib.hid hc2; have HB13 := Lib.hid hb13'
                    clear hc2 hb13 hb13' HB12 HC1
                    go_wp2_with (fail)
                    refine HC2.out.mono ?_
                    rintro e w14 ⟨rfl, hb14⟩
                    go_wp2
                    go_ret
                    exact ⟨rfl, HB10.out.trans ((HB13.out.trans (hb14.mono HB13.out.size)).mono HB10.out.size)⟩
end Go.Proofs.Fl

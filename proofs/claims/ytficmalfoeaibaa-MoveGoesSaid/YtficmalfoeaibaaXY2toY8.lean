import Derived.Test.YtficmalfoeaibaaXX6toX9
import Derived.Deep.QuietTactic
import Derived.BigQuiet
namespace Go.Proofs.Fl
open Go.RowKit

/-! ### MoveLost: the pool -/
def vL (s : Nat) : MV := ⟨2, 2, [3, 2, 1, 0], [4, 5, 6, 7], [0, 1, 2, 3], s / 4, s % 4⟩
theorem vL_ok (s : Nat) : MvOk (vL s) := ⟨by show 1 ≤ 2; decide, by show 2 ≤ 4; decide, by show 2 ≤ 3; decide, rfl, rfl⟩
theorem vL_adv (s : Nat) (h : s < 12) : adv (vL s) = vL (s + 1) := by
  have : s = 0 ∨ s = 1 ∨ s = 2 ∨ s = 3 ∨ s = 4 ∨ s = 5 ∨ s = 6 ∨ s = 7 ∨ s = 8 ∨ s = 9 ∨ s = 10 ∨ s = 11 := by omega
  rcases this with rfl | rfl | rfl | rfl | rfl | rfl | rfl | rfl | rfl | rfl | rfl | rfl <;> rfl
def baseL (d : Bytes) (lack : UInt8) : DrvL := (laidL 4 (rencM 2 2 (fullM 2 d)) lack 0 4).map fun l => (8, fun j => l[j]?)
theorem baseL_len (d : Bytes) (lack : UInt8) : (baseL d lack).length = 4 := by unfold baseL; rw [List.length_map, laidL_length]
def extL (d : Bytes) (s : Nat) : DrvL := (List.range 4).map fun q => (4, if q < s then putF noS 0 (some (33, q, (rencM 2 2 (fullM 2 d)).getD q [])) else noS)
theorem extL_len (d : Bytes) (s : Nat) : (extL d s).length = 4 := by simp [extL]
theorem baseL_get (d : Bytes) (lack : UInt8) (x : DrvL) (j : Nat) (hj : j < 4) : (baseL d lack ++ x).getD (3 - j) (0, noS) = (8, fun i => (if bitB lack j = false then [((33, j, (rencM 2 2 (fullM 2 d)).getD j []) : Shd)] else [])[i]?) := by
  have hl := laidL_length 4 (rencM 2 2 (fullM 2 d)) lack 0 4
  have hg := laidL_get 4 (rencM 2 2 (fullM 2 d)) lack 0 j hj
  rw [laidB0] at hg
  have hlt : 4 - 1 - j < (laidL 4 (rencM 2 2 (fullM 2 d)) lack 0 4).length := by rw [hl]; omega
  rw [show 3 - j = 4 - 1 - j by omega, List.getD_eq_getElem?_getD, List.getElem?_append_left (by rw [baseL_len]; omega)]
  unfold baseL
  rw [List.getElem?_map, List.getElem?_eq_getElem hlt, Option.map_some, Option.getD_some]
  rw [List.getD_eq_getElem?_getD, List.getElem?_eq_getElem hlt, Option.getD_some] at hg
  rw [hg]
theorem extL_get (d : Bytes) (lack : UInt8) (s q : Nat) (hq : q < 4) : (baseL d lack ++ extL d s).getD (4 + q) (0, noS) = (4, if q < s then putF noS 0 (some (33, q, (rencM 2 2 (fullM 2 d)).getD q [])) else noS) := by
  rw [List.getD_eq_getElem?_getD, List.getElem?_append_right (by rw [baseL_len]; omega), baseL_len, show 4 + q - 4 = q by omega]
  unfold extL
  rw [List.getElem?_map, List.getElem?_range hq]; rfl
theorem row22_len (d : Bytes) (q : Nat) (hq : q < 4) : ((rencM 2 2 (fullM 2 d)).getD q []).length = 8 := renc_row 2 2 _ (by decide) (fullM_length 2 (by decide) d) q hq
theorem gatherL {t : Nat} {pm : PM} {d : Bytes} {lack : UInt8} {x : DrvL} (h : PQ t pm (baseL d lack ++ x)) : gatherK pm 33 [3, 2, 1, 0] 4 = (laidM 2 2 d lack 0).2 := by
  have e : (laidM 2 2 d lack 0).2 = (List.range 4).map (haveB (rencM 2 2 (fullM 2 d)) lack 0) := by unfold laidM; rw [laid_have]
  rw [e]
  unfold gatherK
  refine List.map_congr_left fun j hj => ?_
  have hj' := List.mem_range.1 hj
  have hloc : ([3, 2, 1, 0] : List Int).getD j 0 = ((3 - j : Nat) : Int) := by
    have : j = 0 ∨ j = 1 ∨ j = 2 ∨ j = 3 := by omega
    rcases this with rfl | rfl | rfl | rfl <;> rfl
  rw [hloc]
  have hb := baseL_get d lack x j hj'
  have hlen : 3 - j < (baseL d lack ++ x).length := by rw [List.length_append, baseL_len]; omega
  unfold haveB
  by_cases hl : bitB lack j = false
  · rw [if_pos hl] at hb
    have hld : pm.load ((3 - j : Nat) : Int) 33 j = ((rencM 2 2 (fullM 2 d)).getD j [], 0) := h.load (3 - j) hlen (33, j, (rencM 2 2 (fullM 2 d)).getD j []) 8 _ hb 0 (by decide) (by
      unfold findF
      refine firstIn_some (by decide) ?_ (by omega)
      simp) (by rfl)
    rw [shardOf_load hld, row22_len d j hj', hl, bit0]; rfl
  · rw [if_neg hl] at hb
    have hld : pm.load ((3 - j : Nat) : Int) 33 j = ([], 7) := h.load_none (3 - j) hlen 33 j 8 _ hb (by
      unfold findF
      refine firstIn_none fun i _ => by simp)
    have : bitB lack j = true := by simpa using hl
    rw [shardOf_load hld, this]; rfl
def fewL (lack : UInt8) : Nat := ((List.range 4).filter fun i => bitB lack i).length
theorem few_there (lack : UInt8) : thereK lack 0 4 + fewL lack = 4 := by
  have := u8_all (fun l => decide (thereK l 0 4 + fewL l = 4)) (by decide +kernel) lack
  exact of_decide_eq_true this
theorem oneL {t : Nat} {pm : PM} {d : Bytes} {lack : UInt8} {x : DrvL} (h : PQ t pm (baseL d lack ++ x)) (hf : fewL lack ≤ 2) (a : Nat) (ha : a < 4) : oneM 2 2 pm 33 [3, 2, 1, 0] a = ((rencM 2 2 (fullM 2 d)).getD a [], 0) := by
  have := few_there lack
  have hdec := laidM_dec 2 2 (by decide) (by decide) (by decide) d lack 0 (by show 2 ≤ thereK lack 0 4; omega)
  unfold oneM
  rw [show ([3, 2, 1, 0] : List Int).length = 4 from rfl, gatherL h]
  unfold rebM
  rw [hdec, if_neg (by simp), if_neg (by omega)]
  rfl
theorem oneL_lost {t : Nat} {pm : PM} {d : Bytes} {lack : UInt8} {x : DrvL} (h : PQ t pm (baseL d lack ++ x)) (hf : 2 < fewL lack) (a : Nat) : oneM 2 2 pm 33 [3, 2, 1, 0] a = ([], 8) := by
  have hft := few_there lack
  have hdec : decM 2 2 (laidM 2 2 d lack 0).2 = ([], 8) := by
    unfold decM
    rw [if_pos]
    refine Nat.lt_of_le_of_lt (selB_cnt _ _ _) ?_
    have e : ((List.range (2 + 2)).filter fun i => decide (((laidM 2 2 d lack 0).2.getD i []).length ≠ 0)) = (List.range 4).filter fun i => !(bitB lack i || bitB 0 i) := by
      refine List.filter_congr fun i hi => ?_
      have hi' := List.mem_range.1 hi
      rw [laidM_row _ _ _ _ _ _ hi']
      unfold haveB
      cases bitB lack i || bitB 0 i
      · show decide (((rencM 2 2 (fullM 2 d)).getD i []).length ≠ 0) = true
        rw [row22_len d i hi']; rfl
      · rfl
    rw [e]
    show thereK lack 0 4 < 2
    omega
  unfold oneM
  rw [show ([3, 2, 1, 0] : List Int).length = 4 from rfl, gatherL h]
  unfold rebM
  rw [hdec, if_pos (by decide)]
/-- nothing is moved -/
theorem stuckL {t : Nat} {pm : PM} {d : Bytes} {lack : UInt8} {x : DrvL} (h : PQ t pm (baseL d lack ++ x)) (hf : 2 < fewL lack) : doM (vL 0) pm 0 = (8, pm) := by
  have h1 : oneM 2 2 pm 33 [3, 2, 1, 0] 0 = ([], 8) := oneL_lost h hf 0
  show copyM (vL 0) pm 0 = _
  unfold copyM
  show (if (oneM 2 2 pm 33 [3, 2, 1, 0] 0).2 ≠ 0 then ((oneM 2 2 pm 33 [3, 2, 1, 0] 0).2, pm) else _) = _
  rw [h1, if_pos (by decide)]
theorem tgt_get (q : Nat) (hq : q < 4) : ([4, 5, 6, 7] : List Int).getD q 0 = ((4 + q : Nat) : Int) := by
  have : q = 0 ∨ q = 1 ∨ q = 2 ∨ q = 3 := by omega
  rcases this with rfl | rfl | rfl | rfl <;> rfl
theorem loadE {t : Nat} {pm : PM} {d : Bytes} {lack : UInt8} {s q : Nat} (h : PQ t pm (baseL d lack ++ extL d s)) (hq : q < 4) (hs : q < s) : pm.load ((4 + q : Nat) : Int) 33 q = ((rencM 2 2 (fullM 2 d)).getD q [], 0) := by
  have hg := extL_get d lack s q hq
  rw [if_pos hs] at hg
  exact h.load (4 + q) (by rw [List.length_append, baseL_len, extL_len]; omega) (33, q, (rencM 2 2 (fullM 2 d)).getD q []) 4 _ hg 0 (by decide) (by
    unfold findF
    refine firstIn_some (by decide) ?_ (by omega)
    simp [putF]) (by rfl)
/-- one thing after the other -/
theorem stepL {t : Nat} {pm : PM} {d : Bytes} {lack : UInt8} {s : Nat} (h : PQ t pm (baseL d lack ++ extL d s)) (hf : fewL lack ≤ 2) (hs : s < 12) :
    ∃ pm', doM (vL s) pm (s % 4) = (0, pm') ∧ PQ (t + 1) pm' (baseL d lack ++ extL d (s + 1)) := by
  have hq : s % 4 < 4 := Nat.mod_lt _ (by decide)
  have hone := oneL h hf (s % 4) hq
  have hlen : 4 + s % 4 < (baseL d lack ++ extL d s).length := by rw [List.length_append, baseL_len, extL_len]; omega
  have hsame : ∀ s', 4 ≤ s' → extL d s' = extL d 4 := fun s' h' => by
    unfold extL
    refine List.map_congr_left fun q hq => ?_
    have := List.mem_range.1 hq
    rw [if_pos (by omega), if_pos (by omega)]
  have htg := tgt_get (s % 4) hq
  by_cases h0 : s < 4
  · have es : s % 4 = s := Nat.mod_eq_of_lt h0
    rw [es] at hone hlen htg ⊢
    have hg := extL_get d lack s s h0
    rw [if_neg (Nat.lt_irrefl s)] at hg
    obtain ⟨m', e, h2⟩ := h.store (4 + s) hlen (33, s, (rencM 2 2 (fullM 2 d)).getD s []) ⟨by show 33 ≤ 1073741824; decide, by show s ≤ 255; omega, by show ((rencM 2 2 (fullM 2 d)).getD s []).length ≤ 50; rw [row22_len d s h0]; decide⟩ 4 noS hg 0 (by rfl)
    refine ⟨m', ?_, ?_⟩
    · show (if (vL s).phase = 0 then copyM (vL s) pm s else _) = _
      rw [if_pos (show (vL s).phase = 0 from by show s / 4 = 0; omega)]
      unfold copyM
      show (if (oneM 2 2 pm 33 [3, 2, 1, 0] s).2 ≠ 0 then _ else pm.store (([4, 5, 6, 7] : List Int).getD s 0) 33 s (oneM 2 2 pm 33 [3, 2, 1, 0] s).1) = _
      rw [hone, htg]
      exact e
    · have e2 : (baseL d lack ++ extL d s).set (4 + s) (4, putF noS 0 (some (33, s, (rencM 2 2 (fullM 2 d)).getD s []))) = baseL d lack ++ extL d (s + 1) := by
        rw [List.set_append_right _ _ (by rw [baseL_len]; omega), baseL_len, show 4 + s - 4 = s by omega]
        congr 1
        apply List.ext_getElem
        · rw [List.length_set, extL_len, extL_len]
        · intro q h1 h2
          have hq4 : q < 4 := by rw [extL_len] at h2; exact h2
          rw [List.getElem_set]
          simp only [extL, List.getElem_map, List.getElem_range]
          by_cases e : s = q
          · subst e; rw [if_pos rfl, if_pos (by omega)]
          · rw [if_neg e]
            by_cases hc : q < s
            · rw [if_pos hc, if_pos (by omega)]
            · rw [if_neg hc, if_neg (by omega)]
      rw [e2] at h2
      exact h2
  · rw [hsame s (by omega), ← hsame (s + 1) (by omega)] at h
    by_cases h1 : s < 8
    · obtain ⟨m', e, h2⟩ := h.flush (4 + s % 4) (by rw [List.length_append, baseL_len, extL_len]; omega)
      refine ⟨m', ?_, h2.more (by omega)⟩
      show (if (vL s).phase = 0 then _ else if (vL s).phase = 1 then pm.flush (([4, 5, 6, 7] : List Int).getD (s % 4) 0) else _) = _
      rw [if_neg (show ¬ (vL s).phase = 0 from by show ¬ s / 4 = 0; omega), if_pos (show (vL s).phase = 1 from by show s / 4 = 1; omega), htg]
      exact e
    · refine ⟨pm, ?_, h.more (by omega)⟩
      show (if (vL s).phase = 0 then _ else if (vL s).phase = 1 then _ else (verM (vL s) pm (s % 4), pm)) = _
      rw [if_neg (show ¬ (vL s).phase = 0 from by show ¬ s / 4 = 0; omega), if_neg (show ¬ (vL s).phase = 1 from by show ¬ s / 4 = 1; omega)]
      have hld := loadE h hq (by omega)
      have hv : verM (vL s) pm (s % 4) = 0 := by
        show (if (pm.load (([4, 5, 6, 7] : List Int).getD (s % 4) 0) 33 (s % 4 : Nat)).2 ≠ 0 then _ else if (oneM 2 2 pm 33 [3, 2, 1, 0] (s % 4 : Nat)).2 ≠ 0 then _ else if (pm.load (([4, 5, 6, 7] : List Int).getD (s % 4) 0) 33 (s % 4 : Nat)).1 = (oneM 2 2 pm 33 [3, 2, 1, 0] (s % 4 : Nat)).1 then 0 else 12) = 0
        rw [htg, hld, hone, if_neg (by simp), if_neg (by simp), if_pos rfl]
      rw [hv]
end Go.Proofs.Fl

namespace Go.Proofs.Fl
open Go.RowKit

/-! ### MoveDown: the pool whose power goes -/
def rowD (d : Bytes) (q : Nat) : Bytes := (rencM 2 1 (fullM 2 d)).getD q []
theorem rowD_len (d : Bytes) (q : Nat) (hq : q < 3) : (rowD d q).length = 8 := renc_row 2 1 _ (by decide) (fullM_length 2 (by decide) d) q hq
def vD (s : Nat) : MV := ⟨2, 1, [2, 1, 0], [3, 4, 5], [0, 1, 2], s / 3, s % 3⟩
theorem vD_ok (s : Nat) : MvOk (vD s) := ⟨by show 1 ≤ 2; decide, by show 2 ≤ 4; decide, by show 1 ≤ 3; decide, rfl, rfl⟩
theorem vD_adv (s : Nat) (h : s < 9) : adv (vD s) = vD (s + 1) := by
  have : s = 0 ∨ s = 1 ∨ s = 2 ∨ s = 3 ∨ s = 4 ∨ s = 5 ∨ s = 6 ∨ s = 7 ∨ s = 8 := by omega
  rcases this with rfl | rfl | rfl | rfl | rfl | rfl | rfl | rfl | rfl <;> rfl
theorem tgtD (q : Nat) (hq : q < 3) : ([3, 4, 5] : List Int).getD q 0 = ((3 + q : Nat) : Int) := by
  have : q = 0 ∨ q = 1 ∨ q = 2 := by omega
  rcases this with rfl | rfl | rfl <;> rfl
def frD (d : Bytes) (q : Nat) : Bytes := frame 33 q (rowD d q)
/-- A target drive: empty; its shard written; its shard flushed. -/
def tgt (d : Bytes) (q st : Nat) : DM := if st = 0 then ⟨[[], [], [], []], [], false⟩ else if st = 1 then ⟨[[], [], [], []], [(0, frD d q)], false⟩ else ⟨[frD d q, [], [], []], [], false⟩
def stg (s q : Nat) : Nat := if q + 3 < s then 2 else if q < s then 1 else 0
structure MD (m : PM) (fz : Int) (dn : Bool) (d : Bytes) (s : Nat) : Prop where
  fuse : m.fuse = fz
  down : m.down = dn
  len : m.list.length = 6
  src : ∀ q, q < 3 → HasF 8 (m.get q) 8 (laidS 3 (rencM 2 1 (fullM 2 d)) q).2 ∧ (m.get q).loose = []
  tgt_ : ∀ q, q < 3 → m.get (3 + q) = tgt d q (stg s q)
theorem tgt_has (d : Bytes) (q st : Nat) (hq : q < 3) : HasF 8 (tgt d q st) 4 (if st = 0 then noS else putF noS 0 (some (33, q, rowD d q))) := by
  have hok : okS (33, q, rowD d q) := ⟨by show 33 ≤ 1073741824; decide, by show q ≤ 255; omega, by show (rowD d q).length ≤ 50; rw [rowD_len d q hq]; decide⟩
  have h0 : HasF 8 (⟨[[], [], [], []], [], false⟩ : DM) 4 noS := ⟨rfl, rfl, by simp, fun j hj => by
    have : j = 0 ∨ j = 1 ∨ j = 2 ∨ j = 3 := by omega
    rcases this with rfl | rfl | rfl | rfl <;> rfl, fun j x h => by cases h⟩
  unfold tgt
  by_cases e0 : st = 0
  · rw [if_pos e0, if_pos e0]; exact h0
  · rw [if_neg e0, if_neg e0]
    have h1 : HasF 8 (⟨[[], [], [], []], [(0, frD d q)], false⟩ : DM) 4 (putF noS 0 (some (33, q, rowD d q))) := ⟨rfl, rfl, by simp, fun j hj => by
      have : j = 0 ∨ j = 1 ∨ j = 2 ∨ j = 3 := by omega
      rcases this with rfl | rfl | rfl | rfl <;> rfl, fun j x h => by
        unfold putF noS at h
        split at h
        · injection h with h; rw [← h]; exact hok
        · cases h⟩
    by_cases e1 : st = 1
    · rw [if_pos e1]; exact h1
    · rw [if_neg e1]
      exact ⟨rfl, rfl, by simp, fun j hj => by
        have : j = 0 ∨ j = 1 ∨ j = 2 ∨ j = 3 := by omega
        rcases this with rfl | rfl | rfl | rfl <;> rfl, h1.ok⟩
theorem MD.calm {m : PM} {fz : Int} {dn : Bool} {d : Bytes} {s : Nat} (h : MD m fz dn d s) : m.calm := by
  intro i hi
  rw [h.len] at hi
  by_cases h3 : i < 3
  · rw [(h.src i h3).2]; simp
  · have := h.tgt_ (i - 3) (by omega)
    rw [show 3 + (i - 3) = i by omega] at this
    rw [this]
    have := (tgt_has d (i - 3) (stg s (i - 3)) (by omega)).few
    omega
theorem MD.use {m : PM} {fz : Int} {dn : Bool} {d : Bytes} {s : Nat} (h : MD m fz dn d s) (n : Nat) (hn : n < 6) : m.use n = 0 := by
  have hal : (m.get n).lost = false := by
    by_cases h3 : n < 3
    · exact (h.src n h3).1.alive
    · have := h.tgt_ (n - 3) (by omega)
      rw [show 3 + (n - 3) = n by omega] at this
      rw [this]; exact (tgt_has d (n - 3) _ (by omega)).alive
  unfold PM.use
  rw [if_pos (by rw [h.len]; omega)]
  change (if (m.get n).lost then 8 else 0) = 0
  rw [hal]; rfl
theorem load_has {m : PM} {n t c : Nat} {f : Slots} (hu : m.use n = 0) (hh : HasF t (m.get n) c f) (x : Shd) (j : Nat) (hjc : j < c) (hj : findF f c x.1 x.2.1 = some j) (hfj : f j = some x) : m.load n x.1 x.2.1 = (x.2.2, 0) := by
  have hk := hh.ok j x hfj
  unfold PM.load
  rw [if_neg (by rw [hu]; simp)]
  change (match (m.get n).find x.1 x.2.1 with | none => ([], 7) | some j => (match openF ((m.get n).get j) with | none => [] | some (_, _, b) => b, 0)) = _
  rw [hh.find, hj]
  show (match openF ((m.get n).get j) with | none => [] | some (_, _, b) => b, 0) = _
  rw [hh.at_ j hjc, hfj]
  show (match openF (frame x.1 x.2.1 x.2.2) with | none => [] | some (_, _, b) => b, 0) = _
  rw [openF_frame _ _ _ (by have := hk.1; omega) (by have := hk.2.1; omega) hk.2.2]
theorem MD.src_ {m : PM} {fz : Int} {dn : Bool} {d : Bytes} {s : Nat} (h : MD m fz dn d s) : Src m 3 (rencM 2 1 (fullM 2 d)) := by
  intro j hj
  have hh := (h.src (2 - j) (by omega)).1
  have ej : 3 - 1 - (2 - j) = j := by omega
  have := load_has (h.use (2 - j) (by omega)) hh (33, j, (rencM 2 1 (fullM 2 d)).getD j []) 0 (by decide) (by
    unfold findF laidS
    refine firstIn_some (by decide) ?_ (by omega)
    rw [ej]; simp) (by unfold laidS; rw [ej]; rfl)
  rw [show 3 - 1 - j = 2 - j by omega]
  exact this
theorem MD.one {m : PM} {fz : Int} {dn : Bool} {d : Bytes} {s : Nat} (h : MD m fz dn d s) (a : Nat) (ha : a < 3) : oneM 2 1 m 33 [2, 1, 0] a = (rowD d a, 0) :=
  one_src 2 1 (by decide) (by decide) (by decide) d h.src_ a ha
theorem stg_same (s q : Nat) (h : s ≠ q) (h2 : s ≠ q + 3) : stg (s + 1) q = stg s q := by
  unfold stg
  by_cases a : q + 3 < s
  · rw [if_pos a, if_pos (by omega)]
  · rw [if_neg a, if_neg (by omega)]
    by_cases b : q < s
    · rw [if_pos b, if_pos (by omega)]
    · rw [if_neg b, if_neg (by omega)]
/-- a step that has power -/
theorem MD.next {m : PM} {fz : Int} {d : Bytes} {s n : Nat} {x : DM} (h : MD m fz false d s) (hs : s < 6) (hn : n = 3 + s % 3) (hx : x = tgt d (s % 3) (s / 3 + 1)) (m' : PM) (hm : m' = { m with fuse := fz - 1 }.setD n x) : MD m' (fz - 1) false d (s + 1) := by
  subst hm; subst hn
  have hmod : s % 3 < 3 := Nat.mod_lt _ (by decide)
  have hl : ({ m with fuse := fz - 1 } : PM).list.length = 6 := h.len
  have hg : ∀ i, ({ m with fuse := fz - 1 } : PM).get i = m.get i := fun i => rfl
  refine ⟨rfl, h.down, by rw [setD_len]; exact hl, fun q hq => ?_, fun q hq => ?_⟩
  · rw [setD_get5 _ _ _ _ (by omega), if_neg (by omega), hg]; exact h.src q hq
  · rw [setD_get5 _ _ _ _ (by omega)]
    by_cases e : s % 3 = q
    · subst e
      rw [if_pos rfl, hx]
      have : stg (s + 1) (s % 3) = s / 3 + 1 := by
        have : s = 0 ∨ s = 1 ∨ s = 2 ∨ s = 3 ∨ s = 4 ∨ s = 5 := by omega
        rcases this with rfl | rfl | rfl | rfl | rfl | rfl <;> rfl
      rw [this]
    · rw [if_neg (by omega), hg, h.tgt_ q hq, stg_same s q (fun e' => e (by omega)) (fun e' => e (by omega))]
theorem MD.burn {m : PM} {fz : Int} {d : Bytes} {s : Nat} (h : MD m fz false d s) (hf : 0 ≤ fz) : m.burn = if fz = 0 then (false, { m with down := true }) else (true, { m with fuse := fz - 1 }) := by
  unfold PM.burn
  by_cases e : fz = 0
  · rw [if_pos e, if_pos (.inr (by rw [h.fuse, e]))]
  · rw [if_neg e, if_neg (by rw [h.down, h.fuse]; simp [e]), if_pos (by rw [h.fuse]; omega), h.fuse]
theorem stepD {m : PM} {fz : Int} {d : Bytes} {s : Nat} (h : MD m fz false d s) (hf : 0 ≤ fz) (hs : s < 6) :
    doM (vD s) m (s % 3) = if fz = 0 then (9, { m with down := true }) else (0, { m with fuse := fz - 1 }.setD (3 + s % 3) (tgt d (s % 3) (s / 3 + 1))) := by
  have hmod : s % 3 < 3 := Nat.mod_lt _ (by decide)
  have hone := h.one (s % 3) hmod
  have htg := tgtD (s % 3) hmod
  have hgt := h.tgt_ (s % 3) hmod
  have hbu := h.burn hf
  have hu := h.use (3 + s % 3) (by omega)
  by_cases h0 : s < 3
  · have es : s % 3 = s := Nat.mod_eq_of_lt h0
    rw [es] at hone htg hgt hu ⊢
    have hst : stg s s = 0 := by unfold stg; rw [if_neg (by omega), if_neg (by omega)]
    rw [hst] at hgt
    have hh := tgt_has d s 0 h0
    rw [if_pos rfl, ← hgt] at hh
    show (if (vD s).phase = 0 then copyM (vD s) m s else _) = _
    rw [if_pos (show (vD s).phase = 0 from by show s / 3 = 0; omega)]
    unfold copyM
    show (if (oneM 2 1 m 33 [2, 1, 0] s).2 ≠ 0 then _ else m.store (([3, 4, 5] : List Int).getD s 0) 33 s (oneM 2 1 m 33 [2, 1, 0] s).1) = _
    rw [hone, htg, if_neg (by simp)]
    unfold PM.store
    rw [if_neg (by rw [h.len]; have := rowD_len d s h0; dsimp only; omega)]
    change (if (m.get (3 + s)).lost then (8, m) else match ((m.get (3 + s)).find 33 s).orElse (fun _ => (m.get (3 + s)).free1) with | none => (3, m) | some j => m.write (3 + s) j (frame 33 s (rowD d s))) = _
    have hfi : (m.get (3 + s)).find 33 s = none := (hh.find 33 s).trans rfl
    rw [if_neg (by rw [hh.alive]; simp), hfi, hh.free]
    show m.write (3 + s) 0 (frame 33 s (rowD d s)) = _
    unfold PM.write
    rw [hbu, hgt]
    by_cases e : fz = 0
    · rw [if_pos e, if_pos e]; rfl
    · rw [if_neg e, if_neg e]
      show (0, ({ m with fuse := fz - 1 } : PM).setD (3 + s) ((tgt d s 0).put 0 (frame 33 s (rowD d s)))) = _
      rw [show s / 3 + 1 = 1 by omega]; rfl
  · have hst : stg s (s % 3) = 1 := by
      have : s = 3 ∨ s = 4 ∨ s = 5 := by omega
      rcases this with rfl | rfl | rfl <;> rfl
    rw [hst] at hgt
    show (if (vD s).phase = 0 then _ else if (vD s).phase = 1 then m.flush (([3, 4, 5] : List Int).getD (s % 3) 0) else _) = _
    rw [if_neg (show ¬ (vD s).phase = 0 from by show ¬ s / 3 = 0; omega), if_pos (show (vD s).phase = 1 from by show s / 3 = 1; omega), htg]
    unfold PM.flush
    rw [if_neg (by rw [hu]; simp), hbu]
    by_cases e : fz = 0
    · rw [if_pos e, if_pos e]; rfl
    · rw [if_neg e, if_neg e]
      show (0, ({ m with fuse := fz - 1 } : PM).setD (3 + s % 3) ((m.get (3 + s % 3)).keep fun _ => true)) = _
      rw [hgt, show s / 3 + 1 = 2 by omega]; rfl
/-- what is looked at is there -/
theorem lookD {m : PM} {fz : Int} {d : Bytes} {s : Nat} (h : MD m fz false d s) (hs : 6 ≤ s) (hs9 : s < 9) : doM (vD s) m (s % 3) = (0, m) ∧ MD m fz false d (s + 1) := by
  have hmod : s % 3 < 3 := Nat.mod_lt _ (by decide)
  have hone := h.one (s % 3) hmod
  have htg := tgtD (s % 3) hmod
  have hgt := h.tgt_ (s % 3) hmod
  have hst : stg s (s % 3) = 2 := by unfold stg; rw [if_pos (by omega)]
  rw [hst] at hgt
  have hh := tgt_has d (s % 3) 2 hmod
  rw [if_neg (by decide), ← hgt] at hh
  have hld : m.load ((3 + s % 3 : Nat) : Int) 33 (s % 3 : Nat) = (rowD d (s % 3), 0) := load_has (h.use (3 + s % 3) (by omega)) hh (33, s % 3, rowD d (s % 3)) 0 (by decide) (by
    unfold findF
    refine firstIn_some (by decide) ?_ (by omega)
    simp [putF]) (by rfl)
  refine ⟨?_, ⟨h.fuse, h.down, h.len, h.src, fun q hq => ?_⟩⟩
  · show (if (vD s).phase = 0 then _ else if (vD s).phase = 1 then _ else (verM (vD s) m (s % 3), m)) = _
    rw [if_neg (show ¬ (vD s).phase = 0 from by show ¬ s / 3 = 0; omega), if_neg (show ¬ (vD s).phase = 1 from by show ¬ s / 3 = 1; omega)]
    have hv : verM (vD s) m (s % 3) = 0 := by
      show (if (m.load (([3, 4, 5] : List Int).getD (s % 3) 0) 33 (s % 3 : Nat)).2 ≠ 0 then _ else if (oneM 2 1 m 33 [2, 1, 0] (s % 3 : Nat)).2 ≠ 0 then _ else if (m.load (([3, 4, 5] : List Int).getD (s % 3) 0) 33 (s % 3 : Nat)).1 = (oneM 2 1 m 33 [2, 1, 0] (s % 3 : Nat)).1 then 0 else 12) = 0
      rw [htg, hld, hone, if_neg (by simp), if_neg (by simp), if_pos rfl]
    rw [hv]
  · rw [h.tgt_ q hq]
    congr 1
    unfold stg
    rw [if_pos (by omega), if_pos (by omega)]
end Go.Proofs.Fl

namespace Go.Proofs.Fl
open Go.RowKit

theorem keep_nil (d : DM) (h : d.loose = []) (sel : Nat → Bool) : d.keep sel = d := by
  obtain ⟨a, b, c⟩ := d
  simp only at h
  subst h
  rfl
def pS (d : Bytes) (q : Nat) : Slots := putF noS 0 (some (33, q, rowD d q))
def lsE (d : Bytes) (g : Nat → Bool) (s : Nat) : DrvL := [laidS 3 (rencM 2 1 (fullM 2 d)) 0, laidS 3 (rencM 2 1 (fullM 2 d)) 1, laidS 3 (rencM 2 1 (fullM 2 d)) 2] ++ (List.range 3).map fun q => (4, if g q = true ∨ q < s then pS d q else noS)
theorem lsE_len (d : Bytes) (g : Nat → Bool) (s : Nat) : (lsE d g s).length = 6 := by simp [lsE]
theorem lsE_src (d : Bytes) (g : Nat → Bool) (s q : Nat) (hq : q < 3) : (lsE d g s).getD q (0, noS) = laidS 3 (rencM 2 1 (fullM 2 d)) q := by
  have : q = 0 ∨ q = 1 ∨ q = 2 := by omega
  rcases this with rfl | rfl | rfl <;> rfl
theorem lsE_tgt (d : Bytes) (g : Nat → Bool) (s q : Nat) (hq : q < 3) : (lsE d g s).getD (3 + q) (0, noS) = (4, if g q = true ∨ q < s then pS d q else noS) := by
  have : q = 0 ∨ q = 1 ∨ q = 2 := by omega
  rcases this with rfl | rfl | rfl <;> rfl
theorem crashD {m : PM} {fz : Int} {dn : Bool} {d : Bytes} {s : Nat} (h : MD m fz dn d s) (x : Nat) : ∃ g, PQ 8 (m.crash x) (lsE d g 0) := by
  obtain ⟨sel, hsel⟩ : ∃ sel : Nat → Nat → Bool, (fun i => crashSel (rotN x (turnS i))) = sel := ⟨_, rfl⟩
  have hget : ∀ i, i < 6 → (m.crash x).get i = (m.get i).keep (sel i) := fun i hi => by
    show (m.crashTo x m.list.length).get i = _
    rw [crashTo_get _ _ _ _ (Nat.le_refl _), if_pos (by rw [h.len]; exact hi), ← hsel]
  refine ⟨fun q => if stg s q = 0 then false else if stg s q = 1 then sel (3 + q) 0 else true, rfl, rfl, ?_, fun i hi => ?_⟩
  · show (m.crashTo x m.list.length).list.length = _
    rw [crashTo_len, h.len, lsE_len]
  · rw [lsE_len] at hi
    rw [hget i hi]
    by_cases h3 : i < 3
    · have hs := h.src i h3
      rw [keep_nil _ hs.2, lsE_src _ _ _ _ h3]
      exact hs.1
    · obtain ⟨q, rfl⟩ : ∃ q, i = 3 + q := ⟨i - 3, by omega⟩
      have hq : q < 3 := by omega
      rw [h.tgt_ q hq, lsE_tgt _ _ _ _ hq]
      have hst : stg s q = 0 ∨ stg s q = 1 ∨ stg s q = 2 := by
        unfold stg
        split
        · exact .inr (.inr rfl)
        · split
          · exact .inr (.inl rfl)
          · exact .inl rfl
      have t0 := tgt_has d q 0 hq
      have t2 := tgt_has d q 2 hq
      rw [if_pos rfl] at t0
      rw [if_neg (by decide)] at t2
      rcases hst with e | e | e <;> rw [e]
      · rw [keep_nil _ rfl]
        exact t0
      · cases hs : sel (3 + q) 0 with
        | true =>
          have ek : (tgt d q 1).keep (sel (3 + q)) = tgt d q 2 := by
            show (⟨if sel (3 + q) 0 = true then _ else _, [], false⟩ : DM) = _
            rw [if_pos hs]; rfl
          rw [ek]; exact t2
        | false =>
          have ek : (tgt d q 1).keep (sel (3 + q)) = tgt d q 0 := by
            show (⟨if sel (3 + q) 0 = true then _ else _, [], false⟩ : DM) = _
            rw [if_neg (by rw [hs]; decide)]; rfl
          rw [ek]; exact t0
      · rw [keep_nil _ rfl]
        exact t2
theorem srcE {t : Nat} {m : PM} {d : Bytes} {g : Nat → Bool} {s : Nat} (h : PQ t m (lsE d g s)) : Src m 3 (rencM 2 1 (fullM 2 d)) :=
  src_of h 3 _ (by rw [lsE_len]; decide) (fun q hq => lsE_src d g s q hq)
theorem oneE {t : Nat} {m : PM} {d : Bytes} {g : Nat → Bool} {s : Nat} (h : PQ t m (lsE d g s)) (a : Nat) (ha : a < 3) : oneM 2 1 m 33 [2, 1, 0] a = (rowD d a, 0) :=
  one_src 2 1 (by decide) (by decide) (by decide) d (srcE h) a ha
structure EI (m : PM) (d : Bytes) (g : Nat → Bool) (s : Nat) : Prop where
  pq : PQ (8 + s) m (lsE d g s)
  ls : ∀ q, q < 3 → q + 3 < s → m.lasts ((3 + q : Nat) : Int) 33 q = true
theorem lasts_get {m m' : PM} (n : Nat) (hn : n < m.list.length) (hl : m'.list.length = m.list.length) (hg : m'.get n = m.get n) (S K : Int) : m'.lasts n S K = m.lasts n S K := by
  unfold PM.lasts
  rw [hl, if_pos (by omega), if_pos (by omega)]
  show (m'.get n).lastsB S K = (m.get n).lastsB S K
  rw [hg]
theorem pS_put (d : Bytes) (q : Nat) (f : Slots) (hf : f = noS ∨ f = pS d q) : putF f 0 (some (33, q, rowD d q)) = pS d q := by
  funext i
  rcases hf with rfl | rfl
  · rfl
  · unfold pS putF; split <;> rfl
theorem lsE_same (d : Bytes) (g : Nat → Bool) (s : Nat) (h : 3 ≤ s) : lsE d g (s + 1) = lsE d g s := by
  unfold lsE
  congr 1
  refine List.map_congr_left fun q hq => ?_
  have := List.mem_range.1 hq
  rw [if_pos (.inr (by omega)), if_pos (.inr (by omega))]
theorem stepE {m : PM} {d : Bytes} {g : Nat → Bool} {s : Nat} (h : EI m d g s) (hs : s < 9) : ∃ m', doM (vD s) m (s % 3) = (0, m') ∧ EI m' d g (s + 1) := by
  have hmod : s % 3 < 3 := Nat.mod_lt _ (by decide)
  have hone := oneE h.pq (s % 3) hmod
  have htg := tgtD (s % 3) hmod
  have hlen : 3 + s % 3 < (lsE d g s).length := by rw [lsE_len]; omega
  have hml : m.list.length = 6 := by rw [h.pq.len, lsE_len]
  by_cases h0 : s < 3
  · have es : s % 3 = s := Nat.mod_eq_of_lt h0
    rw [es] at hone htg hlen ⊢
    obtain ⟨f, hf⟩ : ∃ f, (if g s = true ∨ s < s then pS d s else noS) = f := ⟨_, rfl⟩
    have hg := lsE_tgt d g s s h0
    rw [hf] at hg
    have hff : f = noS ∨ f = pS d s := by
      rw [← hf]; split
      · exact .inr rfl
      · exact .inl rfl
    have hj : (findF f 4 33 s).orElse (fun _ => freeF f 4) = some 0 := by
      rcases hff with rfl | rfl
      · rfl
      · have : findF (pS d s) 4 33 s = some 0 := by
          unfold findF
          refine firstIn_some (by decide) ?_ (by omega)
          simp [pS, putF]
        rw [this]; rfl
    obtain ⟨m', e, h2⟩ := h.pq.store (3 + s) hlen (33, s, rowD d s) ⟨by show 33 ≤ 1073741824; decide, by show s ≤ 255; omega, by show (rowD d s).length ≤ 50; rw [rowD_len d s h0]; decide⟩ 4 f hg 0 hj
    refine ⟨m', ?_, ?_, fun q hq hqs => by omega⟩
    · show (if (vD s).phase = 0 then copyM (vD s) m s else _) = _
      rw [if_pos (show (vD s).phase = 0 from by show s / 3 = 0; omega)]
      unfold copyM
      show (if (oneM 2 1 m 33 [2, 1, 0] s).2 ≠ 0 then _ else m.store (([3, 4, 5] : List Int).getD s 0) 33 s (oneM 2 1 m 33 [2, 1, 0] s).1) = _
      rw [hone, htg]
      exact e
    · rw [pS_put d s f hff] at h2
      have e2 : (lsE d g s).set (3 + s) (4, pS d s) = lsE d g (s + 1) := by
        have : s = 0 ∨ s = 1 ∨ s = 2 := by omega
        rcases this with rfl | rfl | rfl <;> simp [lsE, List.range_succ]
      rw [e2] at h2
      exact h2
  · by_cases h1 : s < 6
    · obtain ⟨n, hn⟩ : ∃ n, 3 + s % 3 = n := ⟨_, rfl⟩
      have hq3 : s % 3 = s - 3 := by omega
      have hh := h.pq.has (3 + s % 3) hlen
      rw [lsE_tgt d g s (s % 3) hmod, if_pos (.inr (by omega))] at hh
      have hk := hh.keep
      have hfl : m.flush ((3 + s % 3 : Nat) : Int) = (0, m.setD (3 + s % 3) ((m.get (3 + s % 3)).keep fun _ => true)) := by
        unfold PM.flush
        rw [if_neg (by rw [h.pq.use (3 + s % 3) hlen]; simp), h.pq.burn, if_pos rfl]
        rfl
      have hset := h.pq.set (3 + s % 3) hlen hk
      have e3 : (lsE d g s).set (3 + s % 3) (4, pS d (s % 3)) = lsE d g (s + 1) := by
        rw [lsE_same d g s (by omega)]
        have hgt := lsE_tgt d g s (s % 3) hmod
        rw [if_pos (.inr (by omega))] at hgt
        rw [← hgt, List.getD_eq_getElem?_getD, List.getElem?_eq_getElem hlen, Option.getD_some]
        exact List.set_getElem_self hlen
      rw [show ((4, pS d (s % 3)) : Nat × Slots).1 = 4 from rfl, show ((4, pS d (s % 3)) : Nat × Slots).2 = pS d (s % 3) from rfl, e3] at hset
      refine ⟨_, ?_, hset.more (by omega), fun q hq hqs => ?_⟩
      · show (if (vD s).phase = 0 then _ else if (vD s).phase = 1 then m.flush (([3, 4, 5] : List Int).getD (s % 3) 0) else _) = _
        rw [if_neg (show ¬ (vD s).phase = 0 from by show ¬ s / 3 = 0; omega), if_pos (show (vD s).phase = 1 from by show s / 3 = 1; omega), htg]
        exact hfl
      · by_cases e : q = s % 3
        · subst e
          unfold PM.lasts
          rw [setD_len, hml, if_pos (by omega)]
          show ((m.setD (3 + s % 3) ((m.get (3 + s % 3)).keep fun _ => true)).get (3 + s % 3)).lastsB 33 (s % 3 : Nat) = true
          rw [setD_get5 _ _ _ _ (by rw [hml]; omega), if_pos rfl]
          have hcap : ((m.get (3 + s % 3)).keep fun _ => true).cap = 4 := hk.cap
          have h00 : ((m.get (3 + s % 3)).keep fun _ => true).lasts.getD 0 [] = frame 33 (s % 3) (rowD d (s % 3)) := hk.at_ 0 (by show 0 < 4; decide)
          have hok := hk.ok 0 (33, s % 3, rowD d (s % 3)) rfl
          unfold DM.lastsB
          rw [firstIn_some (k := 0) (by rw [hcap]; show 0 < 4; decide) (by
            show hasB 33 (s % 3 : Nat) (((m.get (3 + s % 3)).keep fun _ => true).lasts.getD 0 []) = true
            rw [h00]
            have := shB_has (33, s % 3, rowD d (s % 3)) hok 33 (s % 3)
            refine Eq.trans this ?_
            simp) (by omega)]
          rfl
        · refine Eq.trans (lasts_get (m := m) (3 + q) (by rw [hml]; omega) (setD_len _ _ _) ?_ _ _) (h.ls q hq (by omega))
          rw [setD_get5 _ _ _ _ (by rw [hml]; omega), if_neg (by omega)]
    · have hg := lsE_tgt d g s (s % 3) hmod
      rw [if_pos (.inr (by omega))] at hg
      have hld : m.load ((3 + s % 3 : Nat) : Int) 33 (s % 3 : Nat) = (rowD d (s % 3), 0) := h.pq.load (3 + s % 3) hlen (33, s % 3, rowD d (s % 3)) 4 _ hg 0 (by decide) (by
        unfold findF
        refine firstIn_some (by decide) ?_ (by omega)
        simp [pS, putF]) (by rfl)
      refine ⟨m, ?_, ?_, fun q hq hqs => h.ls q hq (by omega)⟩
      · show (if (vD s).phase = 0 then _ else if (vD s).phase = 1 then _ else (verM (vD s) m (s % 3), m)) = _
        rw [if_neg (show ¬ (vD s).phase = 0 from by show ¬ s / 3 = 0; omega), if_neg (show ¬ (vD s).phase = 1 from by show ¬ s / 3 = 1; omega)]
        have hv : verM (vD s) m (s % 3) = 0 := by
          show (if (m.load (([3, 4, 5] : List Int).getD (s % 3) 0) 33 (s % 3 : Nat)).2 ≠ 0 then _ else if (oneM 2 1 m 33 [2, 1, 0] (s % 3 : Nat)).2 ≠ 0 then _ else if (m.load (([3, 4, 5] : List Int).getD (s % 3) 0) 33 (s % 3 : Nat)).1 = (oneM 2 1 m 33 [2, 1, 0] (s % 3 : Nat)).1 then 0 else 12) = 0
          rw [htg, hld, hone, if_neg (by simp), if_neg (by simp), if_pos rfl]
        rw [hv]
      · rw [lsE_same d g s (by omega)]
        exact h.pq.more (by omega)

/-! ### ahead of the move -/
structure AD (m : PM) (d : Bytes) (i : Nat) : Prop where
  fuse : m.fuse = -1
  down : m.down = false
  len : m.list.length = 3 + i
  src : ∀ q, q < 3 → HasF 8 (m.get q) 8 (laidS 3 (rencM 2 1 (fullM 2 d)) q).2 ∧ (q < i → (m.get q).loose = [])
  tg : ∀ q, q < i → m.get (3 + q) = tgt d q 0
theorem AD.start (d : Bytes) : AD (laidM 2 1 d 0 0).1 d 0 := by
  have h := laid_PQ 2 1 (by decide) (by decide) (by decide) d
  have e : ∀ q, q < 3 → ((List.range (2 + 1)).map (laidS (2 + 1) (rencM 2 1 (fullM 2 d)))).getD q (0, noS) = laidS 3 (rencM 2 1 (fullM 2 d)) q := fun q hq => range_getD _ _ _ _ hq
  refine ⟨h.fuse, h.down, h.len, fun q hq => ⟨?_, fun h0 => absurd h0 (Nat.not_lt_zero _)⟩, fun q hq => absurd hq (Nat.not_lt_zero _)⟩
  have := h.has q (by simpa using hq)
  rw [e q hq] at this
  exact this
theorem add_get (m : PM) (i : Nat) : (m.add 4).get i = if i = m.list.length then DM.new 4 else m.get i := by
  unfold PM.add PM.get
  by_cases h : i < m.list.length
  · rw [getD_snoc_lt _ _ _ _ h, if_neg (by omega)]
  · by_cases e : i = m.list.length
    · subst e; rw [getD_snoc_eq, if_pos rfl]; rfl
    · rw [if_neg e, List.getD_eq_getElem?_getD, List.getD_eq_getElem?_getD, List.getElem?_eq_none (by simp; omega), List.getElem?_eq_none (by omega)]
theorem AD.next {m : PM} {d : Bytes} {i : Nat} (h : AD m d i) (hi : i < 3) : ∃ m', (m.add 4).flush i = (0, m') ∧ AD m' d (i + 1) := by
  have hal : (m.add 4).list.length = 4 + i := by have := h.len; simp [PM.add]; omega
  have hgi : (m.add 4).get i = m.get i := by rw [add_get, if_neg (by have := h.len; omega)]
  have hu : (m.add 4).use i = 0 := by
    unfold PM.use
    rw [if_pos (by rw [hal]; omega)]
    change (if ((m.add 4).get i).lost then 8 else 0) = 0
    rw [hgi, (h.src i hi).1.alive]; rfl
  have hbu : (m.add 4).burn = (true, m.add 4) := by
    unfold PM.burn
    have hf : (m.add 4).fuse = -1 := h.fuse
    have hd : (m.add 4).down = false := h.down
    rw [if_neg (by rw [hf, hd]; simp), if_neg (by rw [hf]; omega)]
  refine ⟨(m.add 4).setD i (((m.add 4).get i).keep fun _ => true), ?_, ⟨h.fuse, h.down, by rw [setD_len, hal]; omega, fun q hq => ?_, fun q hq => ?_⟩⟩
  · unfold PM.flush
    rw [if_neg (by rw [hu]; simp), hbu, if_pos rfl]
    rfl
  · rw [setD_get5 _ _ _ _ (by rw [hal]; omega)]
    by_cases e : i = q
    · subst e
      rw [if_pos rfl, hgi]
      exact ⟨(h.src i hi).1.keep, fun _ => rfl⟩
    · rw [if_neg e, add_get, if_neg (by have := h.len; omega)]
      exact ⟨(h.src q hq).1, fun hqi => (h.src q hq).2 (by omega)⟩
  · rw [setD_get5 _ _ _ _ (by rw [hal]; omega), if_neg (by omega), add_get]
    by_cases e : 3 + q = m.list.length
    · rw [if_pos e]; rfl
    · rw [if_neg e]; exact h.tg q (by have := h.len; omega)
theorem AD.md {m : PM} {d : Bytes} (h : AD m d 3) (f : Int) : MD { m with fuse := f } f false d 0 :=
  ⟨rfl, h.down, h.len, fun q hq => ⟨(h.src q hq).1, (h.src q hq).2 hq⟩, fun q hq => (h.tg q hq)⟩
theorem AD.calm {m : PM} {d : Bytes} {i : Nat} (h : AD m d i) (hi : i ≤ 3) : m.calm := by
  intro j hj
  rw [h.len] at hj
  by_cases h3 : j < 3
  · have := (h.src j h3).1.few; omega
  · have := h.tg (j - 3) (by omega)
    rw [show 3 + (j - 3) = j by omega] at this
    rw [this]
    have := (tgt_has d (j - 3) 0 (by omega)).few
    omega
theorem AD.calm2 {m : PM} {d : Bytes} {i : Nat} (h : AD m d i) (hi : i < 3) : (m.add 4).calm := by
  intro j hj
  rw [add_get]
  split
  · show ([] : List (Nat × Bytes)).length ≤ _; simp
  · rename_i e
    have hl : (m.add 4).list.length = m.list.length + 1 := by simp [PM.add]
    exact h.calm (by omega) j (by omega)
end Go.Proofs.Fl

namespace Go.Proofs.Fl
open Go.RowKit

/-! ### MoveGoes: where each shard goes, and the pool -/
def tgN (n : Nat) (turn : UInt8) (i : Nat) : Nat := if bitB turn i = true then n - i else n - 1 - i
def tgG (n : Nat) (turn : UInt8) (j : Nat) : List Int := (List.range j).map fun i => ((tgN n turn i : Nat) : Int)
theorem tgG_len (n : Nat) (turn : UInt8) (j : Nat) : (tgG n turn j).length = j := by simp [tgG]
theorem tgG_succ (n : Nat) (turn : UInt8) (j : Nat) : tgG n turn (j + 1) = tgG n turn j ++ [((tgN n turn j : Nat) : Int)] := by simp [tgG, List.range_succ]
theorem tgG_get (n : Nat) (turn : UInt8) (j i : Nat) (hi : i < j) : (tgG n turn j).getD i 0 = ((tgN n turn i : Nat) : Int) := range_getD _ _ _ _ hi
/-- The places that differ. -/
def plG (turn : UInt8) (j : Nat) : List Nat := (List.range j).filter fun i => bitB turn i
theorem plG_succ (turn : UInt8) (j : Nat) : plG turn (j + 1) = if bitB turn j = true then plG turn j ++ [j] else plG turn j := by
  unfold plG
  rw [List.range_succ, List.filter_append]
  cases h : bitB turn j
  · rw [List.filter_cons_of_neg (by simp [h])]; simp
  · rw [List.filter_cons_of_pos (by simp [h])]; simp
theorem plG_mem (turn : UInt8) (j a : Nat) : a ∈ plG turn j ↔ a < j ∧ bitB turn a = true := by
  unfold plG; rw [List.mem_filter, List.mem_range]
theorem plG_len (turn : UInt8) (j : Nat) : (plG turn j).length ≤ j := by
  unfold plG; exact Nat.le_trans (List.length_filter_le _ _) (by simp)
theorem plG_nodup (turn : UInt8) (j : Nat) : (plG turn j).Nodup := by
  unfold plG; exact List.nodup_range.sublist List.filter_sublist
theorem placesG (n : Nat) (turn : UInt8) (j : Nat) (hj : j ≤ n) : placesK (locsM n n) (tgG n turn n) j = (plG turn j).map fun a => ((a : Nat) : Int) := by
  induction j with
  | zero => rfl
  | succ j ih =>
    show (if (locsM n n).getD j 0 = (tgG n turn n).getD j 0 then _ else _) = _
    rw [locs_get n j (by omega), tgG_get n turn n j (by omega), plG_succ, ih (by omega)]
    by_cases h : bitB turn j = true
    · have e : tgN n turn j = n - j := if_pos h
      rw [e, if_neg (by omega), if_pos h, List.map_append]; rfl
    · have e : tgN n turn j = n - 1 - j := if_neg h
      rw [e, if_pos rfl, if_neg h]
theorem pl_get {α : Type} [Inhabited α] (l : List α) (r : Nat) (h : r < l.length) (z : α) : l.getD r z ∈ l := by
  rw [List.getD_eq_getElem?_getD, List.getElem?_eq_getElem h]; exact List.getElem_mem h
theorem take_next (l : List Nat) (s : Nat) (h : s < l.length) : l.take (s + 1) = l.take s ++ [l.getD s 0] := by
  rw [List.take_add_one, List.getElem?_eq_getElem h, List.getD_eq_getElem?_getD, List.getElem?_eq_getElem h]; rfl
theorem not_before (l : List Nat) (hn : l.Nodup) (s : Nat) (h : s < l.length) : l.getD s 0 ∉ l.take s := by
  have h2 := hn.sublist (List.take_sublist (s + 1) l)
  rw [take_next l s h, List.nodup_append] at h2
  intro hm
  exact h2.2.2 _ hm _ (List.mem_singleton.2 rfl) rfl

/-- What is on the drives when the shards 'done' were copied. -/
def baseG (n : Nat) (all : List Bytes) (q : Nat) : Slots := if q < n then fun i => [((33, n - 1 - q, all.getD (n - 1 - q) []) : Shd)][i]? else noS
def slG (a : Nat) : Nat := if a = 0 then 0 else 1
def drvG (n : Nat) (all : List Bytes) (done : List Nat) (q : Nat) : Nat × Slots := (8, if 1 ≤ q ∧ q ≤ n ∧ n - q ∈ done then putF (baseG n all q) (slG (n - q)) (some (33, n - q, all.getD (n - q) [])) else baseG n all q)
def lsG (n : Nat) (all : List Bytes) (done : List Nat) : DrvL := (List.range (n + 4)).map (drvG n all done)
theorem lsG_len (n : Nat) (all : List Bytes) (done : List Nat) : (lsG n all done).length = n + 4 := by simp [lsG]
theorem lsG_get (n : Nat) (all : List Bytes) (done : List Nat) (q : Nat) (hq : q < n + 4) : (lsG n all done).getD q (0, noS) = drvG n all done q := range_getD _ _ _ _ hq
theorem PQ.congr {t : Nat} {m : PM} {ls ls' : DrvL} (h : PQ t m ls) (hl : ls'.length = ls.length) (hg : ∀ i, i < ls.length → ls'.getD i (0, noS) = ls.getD i (0, noS)) : PQ t m ls' :=
  ⟨h.fuse, h.down, by rw [h.len, hl], fun i hi => by rw [hl] at hi; rw [hg i hi]; exact h.has i hi⟩
/-- The source of a shard: in slot 0. -/
theorem drv_src (n : Nat) (all : List Bytes) (done : List Nat) (j : Nat) (hj : j < n) : ∃ f, drvG n all done (n - 1 - j) = (8, f) ∧ findF f 8 33 j = some 0 ∧ f 0 = some (33, j, all.getD j []) := by
  have e : n - 1 - (n - 1 - j) = j := by omega
  have hb : baseG n all (n - 1 - j) 0 = some (33, j, all.getD j []) := by
    unfold baseG
    rw [if_pos (by omega), e]; rfl
  have h0 : (drvG n all done (n - 1 - j)).2 0 = some (33, j, all.getD j []) := by
    unfold drvG
    by_cases hc : 1 ≤ n - 1 - j ∧ n - 1 - j ≤ n ∧ n - (n - 1 - j) ∈ done
    · rw [if_pos hc]
      show putF _ _ _ 0 = _
      unfold putF slG
      rw [if_neg (by rw [if_neg (by omega)]; decide), hb]
    · rw [if_neg hc]; exact hb
  refine ⟨(drvG n all done (n - 1 - j)).2, rfl, ?_, h0⟩
  unfold findF
  refine firstIn_some (by decide) ?_ (by omega)
  rw [h0]; simp
theorem srcG {t : Nat} {m : PM} {n : Nat} {all : List Bytes} {done : List Nat} (h : PQ t m (lsG n all done)) : Src m n all := by
  intro j hj
  obtain ⟨f, e, h1, h2⟩ := drv_src n all done j hj
  exact h.load (n - 1 - j) (by rw [lsG_len]; omega) (33, j, all.getD j []) 8 f (by rw [lsG_get _ _ _ _ (by omega), e]) 0 (by decide) h1 h2
/-- The drive that a shard is copied to, when it is there. -/
theorem drv_tgt (n : Nat) (all : List Bytes) (done : List Nat) (a : Nat) (ha : a < n) (hd : a ∈ done) : ∃ f, drvG n all done (n - a) = (8, f) ∧ findF f 8 33 a = some (slG a) ∧ f (slG a) = some (33, a, all.getD a []) := by
  have e : n - (n - a) = a := by omega
  refine ⟨putF (baseG n all (n - a)) (slG a) (some (33, a, all.getD a [])), ?_, ?_, ?_⟩
  · unfold drvG
    rw [e, if_pos ⟨by omega, by omega, hd⟩]
  · unfold findF
    refine firstIn_some (by unfold slG; split <;> decide) (by simp [putF]) fun j hj => ?_
    unfold slG at hj ⊢
    by_cases h0 : a = 0
    · rw [if_pos h0] at hj; omega
    · rw [if_neg h0] at hj ⊢
      obtain rfl : j = 0 := by omega
      unfold putF baseG
      rw [if_neg (by decide), if_pos (by omega)]
      simp; omega
  · simp [putF]
theorem drv_no (n : Nat) (all : List Bytes) (done : List Nat) (a : Nat) (ha : a < n) (hd : a ∉ done) : drvG n all done (n - a) = (8, baseG n all (n - a)) ∧ (findF (baseG n all (n - a)) 8 33 a).orElse (fun _ => freeF (baseG n all (n - a)) 8) = some (slG a) := by
  have e : n - (n - a) = a := by omega
  refine ⟨?_, ?_⟩
  · unfold drvG
    rw [e, if_neg (fun h => hd h.2.2)]
  · have h1 : findF (baseG n all (n - a)) 8 33 a = none := by
      unfold findF
      refine firstIn_none fun j hj => ?_
      unfold baseG
      by_cases h0 : a = 0
      · rw [if_neg (by omega)]; rfl
      · rw [if_pos (by omega)]
        cases j with
        | zero => simp; omega
        | succ j => simp
    rw [h1]
    show freeF (baseG n all (n - a)) 8 = _
    unfold freeF slG
    by_cases h0 : a = 0
    · rw [if_pos h0]
      refine firstIn_some (by decide) ?_ (by omega)
      unfold baseG
      rw [if_neg (by omega)]; rfl
    · rw [if_neg h0]
      refine firstIn_some (by decide) ?_ fun j hj => ?_
      · unfold baseG
        rw [if_pos (by omega)]; rfl
      · obtain rfl : j = 0 := by omega
        unfold baseG
        rw [if_pos (by omega)]; rfl
theorem loadG {t : Nat} {m : PM} {n : Nat} {all : List Bytes} {done : List Nat} (h : PQ t m (lsG n all done)) (a : Nat) (ha : a < n) (hd : a ∈ done) : m.load ((n - a : Nat) : Int) 33 a = (all.getD a [], 0) := by
  obtain ⟨f, e, h1, h2⟩ := drv_tgt n all done a ha hd
  exact h.load (n - a) (by rw [lsG_len]; omega) (33, a, all.getD a []) 8 f (by rw [lsG_get _ _ _ _ (by omega), e]) (slG a) (by unfold slG; split <;> decide) h1 h2
theorem storeG {t : Nat} {m : PM} {n : Nat} {all : List Bytes} {done : List Nat} (h : PQ t m (lsG n all done)) (hn : n ≤ 7) (a : Nat) (ha : a < n) (hd : a ∉ done) (h8 : (all.getD a []).length = 8) :
    ∃ m', m.store ((n - a : Nat) : Int) 33 a (all.getD a []) = (0, m') ∧ PQ (t + 1) m' (lsG n all (done ++ [a])) := by
  obtain ⟨e, hj⟩ := drv_no n all done a ha hd
  obtain ⟨m', e1, h2⟩ := h.store (n - a) (by rw [lsG_len]; omega) (33, a, all.getD a []) ⟨by show 33 ≤ 1073741824; decide, by show a ≤ 255; omega, by show (all.getD a []).length ≤ 50; omega⟩ 8 _ (by rw [lsG_get _ _ _ _ (by omega), e]) (slG a) hj
  refine ⟨m', e1, h2.congr (by rw [List.length_set, lsG_len, lsG_len]) fun i hi => ?_⟩
  rw [List.length_set, lsG_len] at hi
  rw [lsG_get _ _ _ _ hi]
  by_cases ei : n - a = i
  · rw [← ei, getD_set_eq _ _ _ _ (by rw [lsG_len]; omega)]
    unfold drvG
    rw [show n - (n - a) = a by omega, if_pos ⟨by omega, by omega, by simp⟩]
  · rw [getD_set_ne _ _ _ _ _ ei, lsG_get _ _ _ _ hi]
    unfold drvG
    by_cases hc : 1 ≤ i ∧ i ≤ n ∧ n - i ∈ done
    · rw [if_pos hc, if_pos ⟨hc.1, hc.2.1, List.mem_append.2 (.inl hc.2.2)⟩]
    · rw [if_neg hc, if_neg]
      rintro ⟨g1, g2, g3⟩
      rcases List.mem_append.1 g3 with g | g
      · exact hc ⟨g1, g2, g⟩
      · have := List.mem_singleton.1 g; omega
theorem PQ.flush_lasts {t : Nat} {m : PM} {ls : DrvL} (h : PQ t m ls) (n : Nat) (hn : n < ls.length) (x : Shd) (c : Nat) (f : Slots) (hcf : ls.getD n (0, noS) = (c, f)) (j : Nat) (hjc : j < c) (hfj : f j = some x) :
    ∃ m', m.flush n = (0, m') ∧ PQ t m' ls ∧ m'.lasts n x.1 x.2.1 = true ∧ m'.list.length = m.list.length ∧ ∀ i, i ≠ n → m'.get i = m.get i := by
  have hh := (h.has n hn)
  rw [hcf] at hh
  have hk := hh.keep
  have hml := h.len
  have e : ls.set n (c, f) = ls := by
    rw [← hcf, List.getD_eq_getElem?_getD, List.getElem?_eq_getElem hn, Option.getD_some]; exact List.set_getElem_self hn
  have hs := h.set n hn hk
  have es : ((c, f) : Nat × Slots).1 = c := rfl
  have es2 : ((c, f) : Nat × Slots).2 = f := rfl
  rw [es, es2, e] at hs
  refine ⟨m.setD n ((m.get n).keep fun _ => true), ?_, hs, ?_, setD_len _ _ _, fun i hi => ?_⟩
  · unfold PM.flush
    rw [if_neg (by rw [h.use n hn]; simp), h.burn, if_pos rfl]
    rfl
  · unfold PM.lasts
    rw [setD_len, hml, if_pos (by omega)]
    show ((m.setD n ((m.get n).keep fun _ => true)).get n).lastsB x.1 x.2.1 = true
    rw [setD_get5 _ _ _ _ (by rw [hml]; omega), if_pos rfl]
    have hcap : ((m.get n).keep fun _ => true).cap = c := hk.cap
    have h00 : ((m.get n).keep fun _ => true).lasts.getD j [] = shB (some x) := by
      have := hk.at_ j hjc
      rw [es2, hfj] at this
      exact this
    unfold DM.lastsB firstIn
    rw [List.find?_isSome]
    refine ⟨j, List.mem_range.2 (by rw [hcap]; exact hjc), ?_⟩
    rw [h00, shB_has x (hk.ok j x hfj) x.1 x.2.1]; simp
  · rw [setD_get5 _ _ _ _ (by rw [hml]; omega), if_neg (fun e => hi e.symm)]

/-! ### the move -/
def vG (k m : Nat) (turn : UInt8) (s : Nat) : MV := ⟨k, m, locsM (k + m) (k + m), tgG (k + m) turn (k + m), (plG turn (k + m)).map fun a => ((a : Nat) : Int), s / (plG turn (k + m)).length, s % (plG turn (k + m)).length⟩
theorem vG_ok (k m : Nat) (h1 : 1 ≤ k) (h4 : k ≤ 4) (h3 : m ≤ 3) (turn : UInt8) (s : Nat) : MvOk (vG k m turn s) := ⟨h1, h4, h3, locsM_length _ _, tgG_len _ _ _⟩
theorem div_next (s P : Nat) (hP : 0 < P) : (s % P + 1 = P → (s + 1) / P = s / P + 1 ∧ (s + 1) % P = 0) ∧ (s % P + 1 ≠ P → (s + 1) / P = s / P ∧ (s + 1) % P = s % P + 1) := by
  have hm := Nat.mod_lt s hP
  have hd := Nat.div_add_mod s P
  refine ⟨fun h => ?_, fun h => ?_⟩
  · have e : s + 1 = P * (s / P + 1) := by rw [Nat.mul_add, Nat.mul_one]; omega
    rw [e, Nat.mul_div_cancel_left _ hP, Nat.mul_mod_right]; exact ⟨rfl, rfl⟩
  · have e : s + 1 = P * (s / P) + (s % P + 1) := by omega
    have hl : s % P + 1 < P := by omega
    have e1 : (s + 1) / P = s / P := by
      conv => lhs; rw [e]
      rw [Nat.mul_add_div hP, Nat.div_eq_of_lt hl]; rfl
    have e2 : (s + 1) % P = s % P + 1 := by
      conv => lhs; rw [e]
      rw [Nat.mul_add_mod, Nat.mod_eq_of_lt hl]
    exact ⟨e1, e2⟩
theorem vG_adv (k m : Nat) (turn : UInt8) (s : Nat) (hP : 0 < (plG turn (k + m)).length) : adv (vG k m turn s) = vG k m turn (s + 1) := by
  obtain ⟨h1, h2⟩ := div_next s _ hP
  unfold adv
  show (if s % (plG turn (k + m)).length + 1 = ((plG turn (k + m)).map fun a => ((a : Nat) : Int)).length then _ else _) = _
  rw [List.length_map]
  unfold vG
  by_cases e : s % (plG turn (k + m)).length + 1 = (plG turn (k + m)).length
  · rw [if_pos e, (h1 e).1, (h1 e).2]
  · rw [if_neg e, (h2 e).1, (h2 e).2]
structure GI (m : PM) (n : Nat) (all : List Bytes) (turn : UInt8) (s : Nat) : Prop where
  pq : PQ (8 + s) m (lsG n all ((plG turn n).take s))
  ls : ∀ r, r < (plG turn n).length → (plG turn n).length + r < s → m.lasts ((n - (plG turn n).getD r 0 : Nat) : Int) 33 ((plG turn n).getD r 0 : Nat) = true
theorem pl_in (turn : UInt8) (n r : Nat) (hr : r < (plG turn n).length) : (plG turn n).getD r 0 < n ∧ bitB turn ((plG turn n).getD r 0) = true ∧ (plG turn n).getD r 0 ∈ plG turn n := by
  have h := pl_get (plG turn n) r hr 0
  have h2 := (plG_mem turn n _).1 h
  exact ⟨h2.1, h2.2, h⟩
theorem pl_inj (turn : UInt8) (n r r' : Nat) (hr : r < (plG turn n).length) (hr' : r' < (plG turn n).length) (e : (plG turn n).getD r 0 = (plG turn n).getD r' 0) : r = r' := by
  have key : ∀ r r', r < r' → r' < (plG turn n).length → (plG turn n).getD r 0 ≠ (plG turn n).getD r' 0 := fun r r' h h' e => by
    refine not_before _ (plG_nodup turn n) r' h' ?_
    rw [← e]
    rw [List.getD_eq_getElem?_getD, List.getElem?_eq_getElem (by omega), Option.getD_some]
    exact List.mem_iff_getElem.2 ⟨r, by rw [List.length_take]; omega, by rw [List.getElem_take]⟩
  rcases Nat.lt_trichotomy r r' with h | h | h
  · exact absurd e (key r r' h hr')
  · exact h
  · exact absurd e.symm (key r' r h hr)
theorem take_all2 (l : List Nat) (s : Nat) (h : l.length ≤ s) : l.take s = l := List.take_of_length_le h
set_option maxHeartbeats 400000 in
/-- one thing after the other -/
theorem stepG {pm : PM} {k m : Nat} (hk1 : 1 ≤ k) (hk4 : k ≤ 4) (hm3 : m ≤ 3) {d : Bytes} {turn : UInt8} {s : Nat} (h : GI pm (k + m) (rencM k m (fullM k d)) turn s) (hs : s < 3 * (plG turn (k + m)).length) :
    ∃ pm', doM (vG k m turn s) pm ((plG turn (k + m)).getD (s % (plG turn (k + m)).length) 0) = (0, pm') ∧ GI pm' (k + m) (rencM k m (fullM k d)) turn (s + 1) := by
  obtain ⟨P, hP⟩ : ∃ P, (plG turn (k + m)).length = P := ⟨_, rfl⟩
  obtain ⟨n, hn⟩ : ∃ n, k + m = n := ⟨_, rfl⟩
  have hPn := plG_len turn (k + m)
  have hone0 : ∀ a, a < k + m → oneM k m pm 33 (locsM (k + m) (k + m)) a = ((rencM k m (fullM k d)).getD a [], 0) := fun a ha => one_src k m hk1 hk4 hm3 d (srcG h.pq) a ha
  have h80 : ∀ a, a < k + m → ((rencM k m (fullM k d)).getD a []).length = 8 := fun a ha => renc_row k m _ hk1 (fullM_length k hk4 d) a ha
  generalize rencM k m (fullM k d) = all at *
  have hr : s % (plG turn (k + m)).length < (plG turn (k + m)).length := Nat.mod_lt _ (by omega)
  obtain ⟨ha, hb, hin⟩ := pl_in turn (k + m) _ hr
  have hinj := pl_inj turn (k + m)
  have hnb := not_before (plG turn (k + m)) (plG_nodup turn (k + m))
  have hpin := fun r hr => (pl_in turn (k + m) r hr).1
  obtain ⟨r, hrr⟩ : ∃ r, s % (plG turn (k + m)).length = r := ⟨_, rfl⟩
  rw [hrr] at ha hb hin hr ⊢
  obtain ⟨a, haa⟩ : ∃ a, (plG turn (k + m)).getD r 0 = a := ⟨_, rfl⟩
  rw [haa] at ha hb hin ⊢
  have htg : (tgG (k + m) turn (k + m)).getD a 0 = ((k + m - a : Nat) : Int) := by
    rw [tgG_get _ _ _ _ ha]; unfold tgN; rw [if_pos hb]
  have hone := hone0 a ha
  have h8 := h80 a ha
  have hdm := Nat.div_add_mod s (plG turn (k + m)).length
  rw [hrr] at hdm
  have hpq := h.pq
  have hl := h.ls
  have hph : (vG k m turn s).phase = s / (plG turn (k + m)).length := rfl
  by_cases h0 : s < P
  · have e0 : s / (plG turn (k + m)).length = 0 := by rw [hP]; exact Nat.div_eq_of_lt h0
    rw [e0] at hdm hph
    have hsr : s = r := by omega
    subst hsr
    have hnot := hnb s hr
    rw [haa] at hnot
    obtain ⟨m', e, h2⟩ := storeG hpq (by omega) a ha hnot h8
    refine ⟨m', ?_, ?_, fun r' hr' hs' => by omega⟩
    · unfold doM
      rw [hph, if_pos rfl]
      unfold copyM
      show (if (oneM k m pm 33 (locsM (k + m) (k + m)) a).2 ≠ 0 then _ else pm.store ((tgG (k + m) turn (k + m)).getD a 0) 33 a (oneM k m pm 33 (locsM (k + m) (k + m)) a).1) = _
      rw [hone, htg]
      exact e
    · rw [take_next _ s hr, haa]
      exact h2
  · have ea : ∀ s', P ≤ s' → (plG turn (k + m)).take s' = plG turn (k + m) := fun s' h' => take_all2 _ _ (by omega)
    rw [ea s (by omega)] at hpq
    by_cases h1 : s < 2 * P
    · have e1 : s / (plG turn (k + m)).length = 1 := by rw [hP]; exact Nat.div_eq_of_lt_le (by omega) (by omega)
      rw [e1] at hdm hph
      obtain ⟨f, q1, q2, q3⟩ := drv_tgt (k + m) all (plG turn (k + m)) a ha hin
      obtain ⟨m', e, h2, h3, h4, h5⟩ := hpq.flush_lasts (k + m - a) (by rw [lsG_len]; omega) (33, a, all.getD a []) 8 f (by rw [lsG_get _ _ _ _ (by omega), q1]) (slG a) (by unfold slG; split <;> decide) q3
      refine ⟨m', ?_, ?_, fun r' hr' hs' => ?_⟩
      · unfold doM
        rw [hph, if_neg (by decide), if_pos rfl]
        show pm.flush ((tgG (k + m) turn (k + m)).getD a 0) = _
        rw [htg]
        exact e
      · rw [ea (s + 1) (by omega)]
        exact h2.more (by omega)
      · by_cases er : r' = r
        · subst er; rw [haa]; exact h3
        · have hne : (plG turn (k + m)).getD r' 0 ≠ a := fun e => er (hinj r' r hr' hr (by rw [e, haa]))
          have hlt := hpin r' hr'
          refine Eq.trans (lasts_get (m := pm) (k + m - (plG turn (k + m)).getD r' 0) ?_ h4 (h5 _ (by omega)) _ _) (hl r' hr' (by omega))
          rw [hpq.len, lsG_len]; omega
    · have e2 : s / (plG turn (k + m)).length = 2 := by rw [hP]; exact Nat.div_eq_of_lt_le (by omega) (by omega)
      rw [e2] at hdm hph
      have hld := loadG hpq a ha hin
      refine ⟨pm, ?_, ?_, fun r' hr' hs' => hl r' hr' (by omega)⟩
      · unfold doM
        rw [hph, if_neg (by decide), if_neg (by decide)]
        have hv : verM (vG k m turn s) pm a = 0 := by
          show (if (pm.load ((tgG (k + m) turn (k + m)).getD a 0) 33 (a : Nat)).2 ≠ 0 then _ else if (oneM k m pm 33 (locsM (k + m) (k + m)) (a : Nat)).2 ≠ 0 then _ else if (pm.load ((tgG (k + m) turn (k + m)).getD a 0) 33 (a : Nat)).1 = (oneM k m pm 33 (locsM (k + m) (k + m)) (a : Nat)).1 then 0 else 12) = 0
          rw [htg, hld, hone, if_neg (by simp), if_neg (by simp), if_pos rfl]
        rw [hv]
      · rw [ea (s + 1) (by omega)]
        exact hpq.more (by omega)
end Go.Proofs.Fl

namespace Go.Proofs.Fl
open Go.RowKit

set_option maxHeartbeats 1000000 in
set_option maxRecDepth 100000 in
/-- Same, of the same bytes: nothing turns but the count of draws. -/
theorem same_quiet {S T : Nat → Prop} {va vb : Value} {a : Bytes} {w : World} (hA : Bs w S va a) (hB : Bs w T vb a) (ha : a.length ≤ 1000000) (h0 : 0 < a.length) :
    Calls Try.prog 35 #[va, vb] w fun e w' => e = .returned (.bool true) ∧ ∃ n, w' = w.drewN n := by
  obtain ⟨b1, o1, c1, rfl, _, hb1, hc1⟩ := hA.cellAt h0
  obtain ⟨b2, o2, c2, rfl, _, hb2, hc2⟩ := hB.cellAt h0
  have HC1 := Lib.hid hc1; have HC2 := Lib.hid hc2
  clear hA hB hc1 hc2
  go_enter Try.func35, Try.ntmps35
  go_wp2
  go_loopw [5] (fun i wr => ∃ j : Nat, j ≤ a.length ∧ i = .int .i64 j ∧ ∃ n, wr = w.drewN n) (fun i _ => a.length - (intOf i).toNat)
  case atStart => exact ⟨0, by omega, rfl, 0, rfl⟩
  case round =>
    obtain ⟨j, hj, rfl, n, rfl⟩ := hrel
    by_cases hlt : j < a.length
    · have x1 : (w.drewN n).cell? ⟨b1, o1 + j, none⟩ = _ := (HC1.out j hlt)
      have x2 : (w.drewN n).cell? ⟨b2, o2 + j, none⟩ = _ := (HC2.out j hlt)
      generalize (a.getD j 0).toNat = x at *
      obtain ⟨wa, hwa⟩ : ∃ wa, wa = w.drewN n := ⟨_, rfl⟩
      rw [← hwa] at x1 x2 ⊢
      have HWA := Lib.hid hwa
      clear hwa
      go_wp2
      go_quiet (fail)
      go_wp2
      go_roundw
      case rel => exact ⟨j + 1, by omega, by go_num, n + nq, by rw [HWA.out, World.drewN_drewN]⟩
      case measure => simp [intOf]; omega
    · obtain rfl : j = a.length := by omega
      go_wp2
      go_ret
      exact ⟨rfl, n, rfl⟩

set_option maxHeartbeats 1000000 in
set_option maxRecDepth 100000 in
/-- Ints, of the same numbers. -/
theorem ints_quiet {S T : Nat → Prop} {va vb : Value} {l : List Int} {w : World} (hA : Ns w S va l) (hB : Ns w T vb l) (hl : l.length ≤ 1000) (h0 : 0 < l.length) :
    Calls Try.prog 56 #[va, vb] w fun e w' => e = .returned (.bool true) ∧ ∃ n, w' = w.drewN n := by
  obtain ⟨aa, ca, rfl, ha⟩ := hA.open_
  obtain ⟨ab, cb, rfl, hb⟩ := hB.open_
  obtain ⟨b1, o1, rfl, hb1, hc1⟩ := ha h0
  obtain ⟨b2, o2, rfl, hb2, hc2⟩ := hb h0
  have HC1 := Lib.hid hc1; have HC2 := Lib.hid hc2
  clear hA hB hc1 hc2 ha hb
  go_enter Try.func56, Try.ntmps56
  go_wp2
  go_loopw [5] (fun i wr => ∃ j : Nat, j ≤ l.length ∧ i = .int .i64 j ∧ ∃ n, wr = w.drewN n) (fun i _ => l.length - (intOf i).toNat)
  case atStart => exact ⟨0, by omega, rfl, 0, rfl⟩
  case round =>
    obtain ⟨j, hj, rfl, n, rfl⟩ := hrel
    by_cases hlt : j < l.length
    · have x1 : (w.drewN n).cell? ⟨b1, o1 + j, none⟩ = _ := (HC1.out j hlt)
      have x2 : (w.drewN n).cell? ⟨b2, o2 + j, none⟩ = _ := (HC2.out j hlt)
      generalize l.getD j 0 = x at *
      obtain ⟨wa, hwa⟩ : ∃ wa, wa = w.drewN n := ⟨_, rfl⟩
      rw [← hwa] at x1 x2 ⊢
      have HWA := Lib.hid hwa
      clear hwa
      go_wp2
      go_quiet (fail)
      go_wp2
      go_roundw
      case rel => exact ⟨j + 1, by omega, by go_num, n + nq, by rw [HWA.out, World.drewN_drewN]⟩
      case measure => simp [intOf]; omega
    · obtain rfl : j = l.length := by omega
      go_wp2
      go_ret
      exact ⟨rfl, n, rfl⟩

set_option maxHeartbeats 1000000 in
set_option maxRecDepth 100000 in
/-- Stripe: a copy of the stripe that is moved. -/
theorem stripe_any {w : World} {K : Nat → Prop} {xb : Nat} {v : MV} (hM : MoveAt w K xb v) (h0 : 0 < v.locs.length) (hn : v.locs.length ≤ 1000) :
    Calls Try.prog 59 #[.pointer (some ⟨xb, 0, none⟩)] w fun e w' => ∃ b, e = .returned (stripeV 33 0 (.slice (some ⟨b, 0, none⟩) v.locs.length v.locs.length)) ∧ Ns w' (Fresh w) (.slice (some ⟨b, 0, none⟩) v.locs.length v.locs.length) v.locs ∧ Below w.heap.size w w' := by
  obtain ⟨lv, tv, pv, hx, hb, h1, h2, h3⟩ := hM
  obtain ⟨vb, vo, vc, rfl, _, hvb, _, _⟩ := Sv.cellAt h1 (by rw [List.length_map]; exact h0)
  rw [List.length_map] at hb h1
  generalize v.locs = l at *
  obtain ⟨W, hW⟩ : ∃ W, w.alloc (.cells #[.int .i64 0, .int .i64 0, .slice none 0 0] 67) = W := ⟨_, rfl⟩
  have hbW : Below w.heap.size w W := by rw [← hW]; exact (Below.refl _ _).alloc (Nat.le_refl _) _
  have q2 : W.heap[w.heap.size]? = some (.cells #[.int .i64 0, .int .i64 0, .slice none 0 0] 67 (0, 0)) := by rw [← hW]; exact heap_alloc_new _ _
  have hbx := (hbW.block xb (blk_lt hb)).trans hb
  have hl2 := blk_lt q2
  have hcl := recclone_any 33 0 (h1.below hbW) h0 hn
  have c2 : W.cell? ⟨xb, 2, none⟩ = some (.int .i64 33) := blk_cell hbx rfl
  have c3 : W.cell? ⟨xb, 3, none⟩ = some (.int .i64 0) := blk_cell hbx rfl
  have c4 : W.cell? ⟨xb, 4, none⟩ = some (.slice (some ⟨vb, vo, none⟩) l.length vc) := blk_cell hbx rfl
  have HC := Lib.hid hcl; have H2 := Lib.hid q2; have HBW := Lib.hid hbW
  clear hcl q2 hbW hbx hb h1 h2 h3
  unfold stripeV at HC ⊢
  go_enter Try.func59, Try.ntmps59
  go_wp2_with (fail)
  refine HC.out.mono ?_
  rintro e w1 ⟨b, rfl, hNs, hb1⟩
  have q2 := (hb1.block _ hl2).trans H2.out
  have HBF := Lib.hid (show Ns w1 (fun x => Fresh w x ∧ Fresh W x) (.slice (some ⟨b, 0, none⟩) l.length l.length) l from Sv.mono hNs (fun x _ h => ⟨Nat.le_trans HBW.out.size h, h⟩))
  have Q2 := Lib.hid q2; have HB1 := Lib.hid (HBW.out.trans (hb1.mono HBW.out.size))
  have d0 : w1.cell? ⟨w.heap.size, 0, none⟩ = some (.int .i64 0) := blk_cell q2 rfl
  have d1 : w1.cell? ⟨w.heap.size, 1, none⟩ = some (.int .i64 0) := blk_cell q2 rfl
  have d2 : w1.cell? ⟨w.heap.size, 2, none⟩ = some (.slice none 0 0) := blk_cell q2 rfl
  have g0 := blk_free q2 0
  have g1 := blk_free q2 1
  have g2 := blk_free q2 2
  clear q2 hNs HC H2 c2 c3 c4
  go_wp2
  have hm : Mod (fun x => x = w.heap.size) w1 (((w1.setCell ⟨w.heap.size, 0, none⟩ (.int .i64 33)).setCell ⟨w.heap.size, 1, none⟩ (.int .i64 0)).setCell ⟨w.heap.size, 2, none⟩ (.slice (some ⟨b, 0, none⟩) l.length l.length)) :=
    (((Mod.refl (fun x => x = w.heap.size) w1).setCell (p := ⟨w.heap.size, 0, none⟩) (fun _ => rfl) _).setCell (p := ⟨w.heap.size, 1, none⟩) (fun _ => rfl) _).setCell (p := ⟨w.heap.size, 2, none⟩) (fun _ => rfl) _
  have q2 : (((w1.setCell ⟨w.heap.size, 0, none⟩ (.int .i64 33)).setCell ⟨w.heap.size, 1, none⟩ (.int .i64 0)).setCell ⟨w.heap.size, 2, none⟩ (.slice (some ⟨b, 0, none⟩) l.length l.length)).heap[w.heap.size]? = some (.cells #[.int .i64 33, .int .i64 0, .slice (some ⟨b, 0, none⟩) l.length l.length] 67 (0, 0)) :=
    blk_set (blk_set (blk_set Q2.out 0 _) 1 _) 2 _
  generalize (((w1.setCell ⟨w.heap.size, 0, none⟩ (.int .i64 33)).setCell ⟨w.heap.size, 1, none⟩ (.int .i64 0)).setCell ⟨w.heap.size, 2, none⟩ (.slice (some ⟨b, 0, none⟩) l.length l.length)) = wz at *
  refine bodyPost_ret (results_cell_row rfl _ _ (w.heap.size) 67 _ (0, 0) _ rfl q2 Try.underlying67 rfl (by kernel_rfl)) rfl ?_
  refine ⟨b, rfl, ?_, below_mod HB1.out HB1.out.size hm (fun x hx => by omega)⟩
  have hf := HBF.out
  refine (Sv.kept hf hm (fun x _ h h' => ?_)).mono (fun x _ h => h.1)
  have h1 : W.heap.size ≤ x := h.2
  omega

set_option maxHeartbeats 2000000 in
set_option maxRecDepth 100000 in
/-- Stripes, of one stripe each, the same. -/
theorem stripes_same {w : World} {S T : Nat → Prop} {sa sb ca cb : Nat} {aa ab : Option Addr} {l : List Int} (hl : l.length ≤ 1000) (h0 : 0 < l.length)
    (hA : Ns w S (.slice aa l.length ca) l) (hB : Ns w T (.slice ab l.length cb) l)
    (a0 : w.cell? ⟨sa, 0, none⟩ = some (.int .i64 33)) (a1 : w.cell? ⟨sa, 1, none⟩ = some (.int .i64 0)) (a2 : w.cell? ⟨sa, 2, none⟩ = some (.slice aa l.length ca))
    (b0 : w.cell? ⟨sb, 0, none⟩ = some (.int .i64 33)) (b1 : w.cell? ⟨sb, 1, none⟩ = some (.int .i64 0)) (b2 : w.cell? ⟨sb, 2, none⟩ = some (.slice ab l.length cb)) :
    Calls Try.prog 58 #[.slice (some ⟨sa, 0, none⟩) 1 1, .slice (some ⟨sb, 0, none⟩) 1 1] w fun e w' => e = .returned (.bool true) ∧ ∃ n, w' = w.drewN n := by
  have HI := Lib.hid (fun n => Calls.quiet_of (ints_quiet (w := w.drewN n) (S := S) (T := T) (hA.below (below_drewN (Below.refl _ w) n)) (hB.below (below_drewN (Below.refl _ w) n)) hl h0))
  clear hA hB
  generalize l.length = len at *
  go_enter Try.func58, Try.ntmps58
  go_wp2
  go_loopw [5] (fun i wr => ∃ j : Nat, j ≤ 1 ∧ i = .int .i64 j ∧ ∃ n, wr = w.drewN n ∧ (j = 0 → n = 0)) (fun i _ => 1 - (intOf i).toNat)
  case atStart => exact ⟨0, by omega, rfl, 0, rfl, fun _ => rfl⟩
  case round =>
    obtain ⟨j, hj, rfl, n, rfl, hn⟩ := hrel
    by_cases hlt : j < 1
    · obtain rfl : j = 0 := by omega
      obtain rfl := hn rfl
      rw [World.drewN_zero]
      go_wp2
      go_quiet ((go_at_call 56; exact HI.out _))
      go_wp2
      go_roundw
      case rel => exact ⟨1, by omega, by go_num, nq, rfl, fun h => by omega⟩
      case measure => simp [intOf]
    · obtain rfl : j = 1 := by omega
      go_wp2
      go_ret
      exact ⟨rfl, n, rfl⟩
end Go.Proofs.Fl

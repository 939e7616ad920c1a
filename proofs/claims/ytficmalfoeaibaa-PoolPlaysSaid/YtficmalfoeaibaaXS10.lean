import Derived.Test.YtficmalfoeaibaaXS7toS8
namespace Go.Proofs.Fl
open Go.RowKit

theorem PF_lose {w : World} {B : Nat} {K : Nat → Prop} {pb : Nat} {m : PM} (h : PoolF w B K pb m) (hK : ∀ b, K b → b < w.heap.size) (hB : B ≤ w.heap.size) (i : Nat) (hi : i < m.list.length) :
    ∃ db, (Calls Try.prog 30 #[.pointer (some ⟨pb, 0, none⟩), .int .i64 i] w fun e w' => e = .returned (.pointer (some ⟨db, 0, none⟩)) ∧ w = w') ∧
      Calls Try.prog 39 #[.pointer (some ⟨db, 0, none⟩)] w fun e w' => e = .returned (.tuple #[]) ∧ PoolF w' B K pb (m.setD i DM.lose) ∧ Mod (fun b => B ≤ b ∧ ¬ K b) w w' := by
  obtain ⟨F, h1, lv, dbs, G, h2⟩ := h
  refine ⟨dbs.getD i 0, h2.sel i hi, ?_⟩
  refine (drive_lose (h2.at_ i hi)).mono ?_
  rintro e w' ⟨rfl, hs⟩
  exact ⟨rfl, PoolF.step h1 (h2.drive i hi DM.lose hs) hK hB⟩
theorem setD_len (m : PM) (n : Nat) (d : DM) : (m.setD n d).list.length = m.list.length := by simp [PM.setD]
theorem calm_set {m : PM} (h : m.calm) (n : Nat) (d : DM) (hd : d.loose.length ≤ 1000000000) : (m.setD n d).calm := by
  intro i hi
  rw [setD_len] at hi
  rw [setD_get]
  split
  · exact hd
  · exact h i hi
theorem load_lost (m : PM) (n : Nat) (hn : n < m.list.length) (S K : Int) : (m.setD n DM.lose).load n S K = ([], 8) := by
  have hu : (m.setD n DM.lose).use n = 8 := by
    unfold PM.use
    rw [if_pos (by rw [setD_len]; omega)]
    change (if ((m.setD n DM.lose).get n).lost then 8 else 0) = 8
    rw [setD_get5 _ _ _ _ hn, if_pos rfl]; rfl
  unfold PM.load
  rw [hu, if_pos (by decide)]
theorem load_other (m : PM) (n q : Nat) (d : DM) (hn : n < m.list.length) (hq : n ≠ q) (S K : Int) : (m.setD n d).load q S K = m.load q S K := by
  have hg : (m.setD n d).get q = m.get q := by rw [setD_get5 _ _ _ _ hn, if_neg hq]
  have hu : (m.setD n d).use q = m.use q := by
    unfold PM.use
    rw [setD_len]
    change (if _ then (if ((m.setD n d).get q).lost then 8 else 0) else 1) = (if _ then (if (m.get q).lost then 8 else 0) else 1)
    rw [hg]
  unfold PM.load
  rw [hu]
  change (if _ then _ else match ((m.setD n d).get q).find S K with | none => ([], 7) | some j => (match openF (((m.setD n d).get q).get j) with | none => [] | some (_, _, b) => b, 0)) = (if _ then _ else match (m.get q).find S K with | none => ([], 7) | some j => (match openF ((m.get q).get j) with | none => [] | some (_, _, b) => b, 0))
  rw [hg]
theorem shard_lost (m : PM) (n : Nat) (hn : n < m.list.length) (S K : Int) : shardOf (m.setD n DM.lose) S n K = [] := by
  rw [shardOf_load (load_lost m n hn S K)]; rfl
theorem shard_other (m : PM) (n q : Nat) (d : DM) (hn : n < m.list.length) (hq : n ≠ q) (S K : Int) : shardOf (m.setD n d) S q K = shardOf m S q K := by
  unfold shardOf; rw [load_other m n q d hn hq]

/-! ### ShardOther -/
def num8 : Bytes := [49, 50, 51, 52, 53, 54, 55, 56]
def othL (all : List Bytes) (i : Nat) : List (List Shd) := (List.range 3).map fun q => if q < i then [(33, 2 - q, all.getD (2 - q) []), (34, 2 - q, num8), (33, 7, num8)] else [(33, 2 - q, all.getD (2 - q) [])]
theorem othL_length (all : List Bytes) (i : Nat) : (othL all i).length = 3 := by simp [othL]
theorem othL_get (all : List Bytes) (i q : Nat) (hq : q < 3) : (othL all i).getD q [] = if q < i then [(33, 2 - q, all.getD (2 - q) []), (34, 2 - q, num8), (33, 7, num8)] else [(33, 2 - q, all.getD (2 - q) [])] := by
  unfold othL; rw [range_getD _ _ _ _ hq]
theorem bit0 (j : Nat) : bitB 0 j = false := by unfold bitB; simp
theorem laidB0 (all : List Bytes) (j : Nat) : laidB all 0 j = all.getD j [] := by unfold laidB; rw [bit0]; rfl
theorem othL_zero (all : List Bytes) : laidL 3 all 0 0 3 = othL all 0 := by
  apply List.ext_getElem
  · rw [laidL_length, othL_length]
  · intro q h1 h2
    have hq : q < 3 := by rw [othL_length] at h2; exact h2
    simp only [laidL, othL, List.getElem_map, List.getElem_range]
    rw [if_pos ⟨by omega, bit0 _⟩, if_neg (by omega), laidB0]
/-- A round of stores of other shards. -/
theorem oth_round {m : PM} {all : List Bytes} {i : Nat} (h : PH m (othL all i)) (hi : i < 3) :
    ∃ m1, m.store i 34 ((2 - i : Nat) : Int) num8 = (0, m1) ∧ m1.calm ∧ ∃ m2, m1.store i 33 7 num8 = (0, m2) ∧ PH m2 (othL all (i + 1)) := by
  have hl := othL_length all i
  have hg := othL_get all i i hi
  rw [if_neg (by omega)] at hg
  obtain ⟨m1, e1, h1⟩ := h.store i (by rw [hl]; exact hi) (34, 2 - i, num8) ⟨by show 34 ≤ 1073741824; decide, by show 2 - i ≤ 255; omega, by show num8.length ≤ 50; decide⟩ (by rw [hg]; simp) (by
    rw [hg]; intro y hy e
    rw [List.mem_singleton.1 hy] at e
    exact absurd e.1 (by show ¬ (33 = 34); decide))
  rw [hg] at h1
  have hg1 : ((othL all i).set i ([(33, 2 - i, all.getD (2 - i) [])] ++ [(34, 2 - i, num8)])).getD i [] = [(33, 2 - i, all.getD (2 - i) []), (34, 2 - i, num8)] := by
    rw [getD_set_eq _ _ _ _ (by rw [hl]; exact hi)]; rfl
  obtain ⟨m2, e2, h2⟩ := h1.store i (by rw [List.length_set, hl]; exact hi) (33, 7, num8) ⟨by show 33 ≤ 1073741824; decide, by show 7 ≤ 255; decide, by show num8.length ≤ 50; decide⟩ (by rw [hg1]; simp) (by
    rw [hg1]; intro y hy e
    simp only [List.mem_cons, List.not_mem_nil, or_false] at hy
    rcases hy with rfl | rfl
    · have : 2 - i = 7 := e.2; omega
    · exact absurd e.1 (by show ¬ (34 = 33); decide))
  refine ⟨m1, e1, h1.calm, m2, e2, ?_⟩
  have e3 : ((othL all i).set i ([(33, 2 - i, all.getD (2 - i) [])] ++ [(34, 2 - i, num8)])).set i (((othL all i).set i ([(33, 2 - i, all.getD (2 - i) [])] ++ [(34, 2 - i, num8)])).getD i [] ++ [(33, 7, num8)]) = othL all (i + 1) := by
    rw [hg1, List.set_set]
    apply List.ext_getElem
    · rw [List.length_set, othL_length, othL_length]
    · intro q h1 h2
      have hq : q < 3 := by rw [othL_length] at h2; exact h2
      rw [List.getElem_set]
      simp only [othL, List.getElem_map, List.getElem_range]
      by_cases e : i = q
      · subst e; rw [if_pos rfl, if_pos (by omega)]; rfl
      · rw [if_neg e]
        by_cases hc : q < i
        · rw [if_pos hc, if_pos (by omega)]
        · rw [if_neg hc, if_neg (by omega)]
  rw [e3] at h2
  exact h2
theorem oth_shard {m : PM} {all : List Bytes} (h : PH m (othL all 3)) (h8 : ∀ i, i < 3 → (all.getD i []).length = 8) (q : Nat) (hq : q < 3) : shardOf m 33 q ((2 - q : Nat) : Int) = all.getD (2 - q) [] := by
  have hg := othL_get all 3 q hq
  rw [if_pos hq] at hg
  have hld := h.load q (by rw [othL_length]; exact hq) 0 (33, 2 - q, all.getD (2 - q) []) (by rw [hg]; rfl) (by omega)
  have hs := shardOf_load (b := all.getD (2 - q) []) (e := 0) hld
  change shardOf m 33 q ((2 - q : Nat) : Int) = _ at hs
  rw [hs, h8 _ (by omega)]; rfl
/-- What is gathered when some drives are lost. -/
def lostT (all : List Bytes) (gone : Nat → Bool) : List Bytes := (List.range 3).map fun j => if gone (2 - j) then [] else all.getD j []
theorem oth_gather {m : PM} {all : List Bytes} (gone : Nat → Bool) (hs : ∀ q : Nat, q < 3 → shardOf m 33 q ((2 - q : Nat) : Int) = if gone q then [] else all.getD (2 - q) []) : gatherK m 33 (locsM 3 3) 3 = lostT all gone := by
  unfold gatherK lostT
  refine List.map_congr_left fun j hj => ?_
  have hj' := List.mem_range.1 hj
  rw [locs_get 3 j hj']
  have := hs (2 - j) (by omega)
  rw [show 2 - (2 - j) = j by omega] at this
  exact this
theorem lostT_get (all : List Bytes) (gone : Nat → Bool) (j : Nat) (hj : j < 3) : (lostT all gone).getD j [] = if gone (2 - j) then [] else all.getD j [] := by
  unfold lostT; rw [range_getD _ _ _ _ hj]
theorem lostT_part (d : Bytes) (gone : Nat → Bool) : PartOf (lostT (rencM 2 1 (fullM 2 d)) gone) 2 1 (fullM 2 d) := by
  intro i hi
  rw [lostT_get _ _ _ hi]
  split
  · exact .inl rfl
  · exact .inr rfl
theorem lostT_cnt (all : List Bytes) (h8 : ∀ i, i < 3 → (all.getD i []).length = 8) (gone : Nat → Bool) :
    ((List.range 3).filter fun i => decide (((lostT all gone).getD i []).length ≠ 0)) = (List.range 3).filter fun i => !gone (2 - i) := by
  refine List.filter_congr fun i hi => ?_
  have hi' := List.mem_range.1 hi
  rw [lostT_get _ _ _ hi']
  cases gone (2 - i)
  · show decide ((all.getD i []).length ≠ 0) = true
    rw [h8 i hi']; rfl
  · rfl
theorem lostT_dec (d : Bytes) (gone : Nat → Bool) (h : 2 ≤ ((List.range 3).filter fun i => !gone (2 - i)).length) : decM 2 1 (lostT (rencM 2 1 (fullM 2 d)) gone) = (fullM 2 d, 0) := by
  refine decM_part _ 2 1 _ (by decide) (by decide) (by decide) (fullM_length 2 (by decide) d) (lostT_part d gone) (selB_full _ _ _ ?_)
  rw [lostT_cnt _ (fun i hi => renc_row 2 1 _ (by decide) (fullM_length 2 (by decide) d) i hi)]
  exact h
theorem selB_cnt (sh : List Bytes) (k n : Nat) : (selB sh k n).length ≤ ((List.range n).filter fun i => decide ((sh.getD i []).length ≠ 0)).length := by
  induction n with
  | zero => simp [selB]
  | succ n ih =>
    unfold selB
    rw [List.range_succ, List.filter_append, List.length_append]
    by_cases h1 : (sh.getD n []).length ≠ 0
    · rw [List.filter_cons_of_pos (by simpa using h1), List.filter_nil, List.length_singleton]
      split
      · rw [List.length_append, List.length_singleton]; omega
      · omega
    · rw [if_neg (fun h => h1 h.1)]; omega
theorem lostT_none (d : Bytes) (gone : Nat → Bool) (h : ((List.range 3).filter fun i => !gone (2 - i)).length < 2) : decM 2 1 (lostT (rencM 2 1 (fullM 2 d)) gone) = ([], 8) := by
  unfold decM
  rw [if_pos]
  refine Nat.lt_of_le_of_lt (selB_cnt _ _ _) ?_
  rw [lostT_cnt _ (fun i hi => renc_row 2 1 _ (by decide) (fullM_length 2 (by decide) d) i hi)]
  exact h
/-- The three reads. -/
theorem oth_reads {m : PM} (d : Bytes) (h : PH m (othL (rencM 2 1 (fullM 2 d)) 3)) (a b : Nat) (ha : a < 3) (hb : b < 3) (hab : a ≠ b) :
    readM 2 1 m 33 (locsM 3 3) = (fullM 2 d, 0) ∧ readM 2 1 (m.setD a DM.lose) 33 (locsM 3 3) = (fullM 2 d, 0) ∧ readM 2 1 ((m.setD a DM.lose).setD b DM.lose) 33 (locsM 3 3) = ([], 8) := by
  have h8 : ∀ i, i < 3 → ((rencM 2 1 (fullM 2 d)).getD i []).length = 8 := fun i hi => renc_row 2 1 _ (by decide) (fullM_length 2 (by decide) d) i hi
  have hl : m.list.length = 3 := by rw [h.len, othL_length]
  have s0 := fun q hq => oth_shard h h8 q hq
  have s1 : ∀ q : Nat, q < 3 → shardOf (m.setD a DM.lose) 33 q ((2 - q : Nat) : Int) = if decide (q = a) then [] else (rencM 2 1 (fullM 2 d)).getD (2 - q) [] := fun q hq => by
    by_cases e : q = a
    · subst e; rw [shard_lost _ _ (by omega)]; simp
    · rw [shard_other _ _ _ _ (by omega) (Ne.symm e), s0 q hq]; simp [e]
  have s2 : ∀ q : Nat, q < 3 → shardOf ((m.setD a DM.lose).setD b DM.lose) 33 q ((2 - q : Nat) : Int) = if decide (q = a) || decide (q = b) then [] else (rencM 2 1 (fullM 2 d)).getD (2 - q) [] := fun q hq => by
    by_cases e : q = b
    · subst e; rw [shard_lost _ _ (by rw [setD_len]; omega)]; simp
    · rw [shard_other _ _ _ _ (by rw [setD_len]; omega) (Ne.symm e), s1 q hq]; simp [e]
  unfold readM
  rw [locsM_length, oth_gather (fun _ => false) (fun q hq => by rw [s0 q hq]; rfl), oth_gather (fun q => decide (q = a)) s1, oth_gather (fun q => decide (q = a) || decide (q = b)) s2]
  have ca : a = 0 ∨ a = 1 ∨ a = 2 := by omega
  have cb : b = 0 ∨ b = 1 ∨ b = 2 := by omega
  refine ⟨lostT_dec d _ (by decide), lostT_dec d _ ?_, lostT_none d _ ?_⟩
  · rcases ca with rfl | rfl | rfl <;> decide
  · rcases ca with rfl | rfl | rfl <;> rcases cb with rfl | rfl | rfl <;> first | (exact absurd rfl hab) | decide
end Go.Proofs.Fl

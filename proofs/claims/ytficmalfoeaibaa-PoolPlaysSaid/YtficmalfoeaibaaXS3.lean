import Derived.Test.YtficmalfoeaibaaXS0toS2
import Derived.Test.YtficmalfoeaibaaXR0
namespace Go.Proofs.Fl

/-! ### a pool by what its drives have -/
abbrev Shd := Nat × Nat × Bytes
def shB : Option Shd → Bytes
  | some x => frame x.1 x.2.1 x.2.2
  | none => []
structure Has (d : DM) (l : List Shd) : Prop where
  cap : d.cap = 8
  alive : d.lost = false
  few : d.loose.length ≤ l.length
  at_ : ∀ j, d.get j = shB l[j]?
  ok : ∀ x, x ∈ l → x.1 ≤ 1073741824 ∧ x.2.1 ≤ 255 ∧ x.2.2.length ≤ 50
  room : l.length ≤ 8
theorem Has.new : Has (DM.new 8) [] := ⟨new_cap 8, rfl, by simp [DM.new], fun j => by rw [new_get]; rfl, (by intro x hx; cases hx), by simp⟩
theorem shB_has (x : Shd) (h : x.1 ≤ 1073741824 ∧ x.2.1 ≤ 255 ∧ x.2.2.length ≤ 50) (S K : Nat) : hasB S K (shB (some x)) = decide (x.1 = S ∧ x.2.1 = K) := by
  show hasB S K (frame x.1 x.2.1 x.2.2) = _
  rw [hasB_frame x.1 x.2.1 x.2.2 (by omega) (by omega) h.2.2]
  by_cases e1 : x.1 = S <;> by_cases e2 : x.2.1 = K <;> simp [e1, e2] <;> omega
theorem Has.find_none {d : DM} {l : List Shd} (h : Has d l) (S K : Nat) (hn : ∀ x, x ∈ l → ¬ (x.1 = S ∧ x.2.1 = K)) : d.find S K = none := by
  unfold DM.find
  refine firstIn_none fun j _ => ?_
  rw [h.at_ j]
  cases hj : l[j]? with
  | none => exact hasB_nil _ _
  | some x =>
    have hm := List.mem_of_getElem? hj
    rw [shB_has x (h.ok x hm)]
    simpa using fun e1 e2 => hn x hm ⟨e1, e2⟩
theorem Has.find_at {d : DM} {l : List Shd} (h : Has d l) (S K : Nat) (j : Nat) (x : Shd) (hj : l[j]? = some x) (hx : x.1 = S ∧ x.2.1 = K) (hn : ∀ i, i < j → ∀ y, l[i]? = some y → ¬ (y.1 = S ∧ y.2.1 = K)) : d.find S K = some j := by
  have hjl := (List.getElem?_eq_some_iff.1 hj).1
  have hr := h.room
  unfold DM.find
  refine firstIn_some (by rw [h.cap]; omega) ?_ fun i hi => ?_
  · show hasB S K (d.get j) = true
    rw [h.at_ j, hj, shB_has x (h.ok x (List.mem_of_getElem? hj))]
    simpa using hx
  · show hasB S K (d.get i) = false
    rw [h.at_ i, List.getElem?_eq_getElem (by omega), shB_has _ (h.ok _ (List.getElem_mem _))]
    simpa using fun e1 e2 => hn i hi _ (List.getElem?_eq_getElem (by omega)) ⟨e1, e2⟩
theorem Has.free {d : DM} {l : List Shd} (h : Has d l) (hl : l.length < 8) : d.free1 = some l.length := by
  unfold DM.free1
  refine firstIn_some (by rw [h.cap]; exact hl) ?_ fun j hj => ?_
  · show (openF (d.get l.length)).isNone = true
    rw [h.at_, List.getElem?_eq_none (Nat.le_refl _)]
    show (openF []).isNone = true
    rw [openF_nil]; rfl
  · show (openF (d.get j)).isNone = false
    rw [h.at_, List.getElem?_eq_getElem hj]
    have hk := h.ok _ (List.getElem_mem hj)
    show (openF (frame _ _ _)).isNone = false
    rw [openF_frame _ _ _ (by omega) (by omega) hk.2.2]; rfl
theorem Has.full {d : DM} {l : List Shd} (h : Has d l) (hl : l.length = 8) : d.free1 = none := by
  unfold DM.free1
  refine firstIn_none fun j hj => ?_
  rw [h.cap] at hj
  show (openF (d.get j)).isNone = false
  rw [h.at_, List.getElem?_eq_getElem (by omega)]
  have hk := h.ok _ (List.getElem_mem (n := j) (l := l) (by omega))
  show (openF (frame _ _ _)).isNone = false
  rw [openF_frame _ _ _ (by omega) (by omega) hk.2.2]; rfl
theorem Has.put {d : DM} {l : List Shd} (h : Has d l) (hl : l.length < 8) (x : Shd) (hx : x.1 ≤ 1073741824 ∧ x.2.1 ≤ 255 ∧ x.2.2.length ≤ 50) : Has (d.put l.length (frame x.1 x.2.1 x.2.2)) (l ++ [x]) where
  cap := h.cap
  alive := h.alive
  few := by have := h.few; simp [DM.put]; omega
  at_ := fun j => by
    rw [put_get]
    by_cases e : l.length = j
    · subst e; rw [if_pos rfl]; simp [shB]
    · rw [if_neg e, h.at_]
      by_cases hj : j < l.length
      · rw [List.getElem?_append_left hj]
      · rw [List.getElem?_eq_none (by omega), List.getElem?_eq_none (by simp; omega)]
  ok := fun y hy => by
    rcases List.mem_append.1 hy with hy | hy
    · exact h.ok y hy
    · rw [List.mem_singleton.1 hy]; exact hx
  room := by simp; omega
/-- The power stays, and each drive has what is said. -/
structure PH (m : PM) (ls : List (List Shd)) : Prop where
  fuse : m.fuse = -1
  down : m.down = false
  len : m.list.length = ls.length
  has : ∀ i, i < ls.length → Has (m.get i) (ls.getD i [])
theorem PH.nil : PH ⟨[], -1, false⟩ [] := ⟨rfl, rfl, rfl, by simp⟩
theorem PH.burn {m : PM} {ls : List (List Shd)} (h : PH m ls) : m.burn = (true, m) := by
  unfold PM.burn
  rw [if_neg (by rw [h.fuse, h.down]; simp), if_neg (by rw [h.fuse]; omega)]
theorem PH.add {m : PM} {ls : List (List Shd)} (h : PH m ls) : PH (m.add 8) (ls ++ [[]]) where
  fuse := h.fuse
  down := h.down
  len := by simp [PM.add, h.len]
  has := fun i hi => by
    rw [List.length_append, List.length_singleton] at hi
    unfold PM.get PM.add
    by_cases hl : i < ls.length
    · rw [getD_snoc_lt _ _ _ _ (by rw [h.len]; exact hl), getD_snoc_lt _ _ _ _ hl]; exact h.has i hl
    · obtain rfl : i = ls.length := by omega
      rw [getD_snoc_eq, ← h.len, getD_snoc_eq]; exact Has.new
theorem PH.use {m : PM} {ls : List (List Shd)} (h : PH m ls) (n : Nat) (hn : n < ls.length) : m.use n = 0 := by
  unfold PM.use
  rw [if_pos (by rw [h.len]; omega)]
  change (if (m.get n).lost then 8 else 0) = 0
  rw [(h.has n hn).alive]; rfl
theorem PH.calm {m : PM} {ls : List (List Shd)} (h : PH m ls) : m.calm := by
  intro i hi
  rw [h.len] at hi
  have h1 := h.has i hi
  have := h1.few; have := h1.room; omega
theorem PH.set {m : PM} {ls : List (List Shd)} (h : PH m ls) (n : Nat) (hn : n < ls.length) {d : DM} {l : List Shd} (hd : Has d l) : PH (m.setD n d) (ls.set n l) where
  fuse := h.fuse
  down := h.down
  len := by simp [PM.setD, h.len]
  has := fun i hi => by
    rw [List.length_set] at hi
    unfold PM.get PM.setD
    by_cases e : n = i
    · subst e; rw [getD_set_eq _ _ _ _ (by rw [h.len]; exact hn), getD_set_eq _ _ _ _ hn]; exact hd
    · rw [getD_set_ne _ _ _ _ _ e, getD_set_ne _ _ _ _ _ e]; exact h.has i hi
theorem PH.write {m : PM} {ls : List (List Shd)} (h : PH m ls) (n j : Nat) (l : Bytes) : m.write n j l = (0, m.setD n ((m.get n).put j l)) := by
  unfold PM.write
  rw [h.burn, if_pos rfl]
/-- A shard that was not there is stored behind the others. -/
theorem PH.store {m : PM} {ls : List (List Shd)} (h : PH m ls) (n : Nat) (hn : n < ls.length) (x : Shd) (hx : x.1 ≤ 1073741824 ∧ x.2.1 ≤ 255 ∧ x.2.2.length ≤ 50) (hl : (ls.getD n []).length < 8)
    (hno : ∀ y, y ∈ ls.getD n [] → ¬ (y.1 = x.1 ∧ y.2.1 = x.2.1)) : ∃ m', m.store n x.1 x.2.1 x.2.2 = (0, m') ∧ PH m' (ls.set n (ls.getD n [] ++ [x])) := by
  have hh := h.has n hn
  have hf := hh.find_none x.1 x.2.1 hno
  have hr := hh.free hl
  refine ⟨m.setD n ((m.get n).put (ls.getD n []).length (frame x.1 x.2.1 x.2.2)), ?_, h.set n hn (hh.put hl x hx)⟩
  unfold PM.store
  rw [if_neg (by rw [h.len]; omega)]
  change (if (m.get n).lost then (8, m) else match ((m.get n).find x.1 x.2.1).orElse (fun _ => (m.get n).free1) with | none => (3, m) | some j => m.write n j (frame x.1 x.2.1 x.2.2)) = _
  rw [if_neg (by rw [hh.alive]; simp), hf, hr]
  exact h.write _ _ _
theorem PH.load_none {m : PM} {ls : List (List Shd)} (h : PH m ls) (n : Nat) (hn : n < ls.length) (S K : Nat) (hno : ∀ y, y ∈ ls.getD n [] → ¬ (y.1 = S ∧ y.2.1 = K)) : m.load n S K = ([], 7) := by
  have hf := (h.has n hn).find_none S K hno
  unfold PM.load
  rw [if_neg (by rw [h.use n hn]; simp)]
  change (match (m.get n).find S K with | none => ([], 7) | some j => (match openF ((m.get n).get j) with | none => [] | some (_, _, b) => b, 0)) = _
  rw [hf]
theorem PH.load {m : PM} {ls : List (List Shd)} (h : PH m ls) (n : Nat) (hn : n < ls.length) (j : Nat) (x : Shd) (hj : (ls.getD n [])[j]? = some x) (hno : ∀ i, i < j → ∀ y, (ls.getD n [])[i]? = some y → ¬ (y.1 = x.1 ∧ y.2.1 = x.2.1)) : m.load n x.1 x.2.1 = (x.2.2, 0) := by
  have hh := h.has n hn
  have hf := hh.find_at x.1 x.2.1 j x hj ⟨rfl, rfl⟩ hno
  have hk := hh.ok x (List.mem_of_getElem? hj)
  unfold PM.load
  rw [if_neg (by rw [h.use n hn]; simp)]
  change (match (m.get n).find x.1 x.2.1 with | none => ([], 7) | some j => (match openF ((m.get n).get j) with | none => [] | some (_, _, b) => b, 0)) = _
  rw [hf]
  show (match openF ((m.get n).get j) with | none => [] | some (_, _, b) => b, 0) = _
  rw [hh.at_ j, hj]
  change (match openF (frame x.1 x.2.1 x.2.2) with | none => [] | some (_, _, b) => b, 0) = _
  rw [openF_frame _ _ _ (by omega) (by omega) hk.2.2]

/-! ### what laid lays -/
def laidB (all : List Bytes) (spoil : UInt8) (j : Nat) : Bytes := if bitB spoil j then (all.getD j []).take 3 else all.getD j []
def laidL (n : Nat) (all : List Bytes) (lack spoil : UInt8) (i : Nat) : List (List Shd) := (List.range n).map fun q => if n ≤ q + i ∧ bitB lack (n - 1 - q) = false then [(33, n - 1 - q, laidB all spoil (n - 1 - q))] else []
def haveB (all : List Bytes) (lack spoil : UInt8) (j : Nat) : Bytes := if bitB lack j || bitB spoil j then [] else all.getD j []
theorem laidK_succ (n : Nat) (all : List Bytes) (lack spoil : UInt8) (i : Nat) : laidK n all lack spoil (i + 1) =
    if bitB lack i then ((laidK n all lack spoil i).1, (laidK n all lack spoil i).2 ++ [[]])
    else if bitB spoil i then (((laidK n all lack spoil i).1.store ((n : Int) - 1 - i) 33 i ((all.getD i []).take 3)).2, (laidK n all lack spoil i).2 ++ [[]])
    else (((laidK n all lack spoil i).1.store ((n : Int) - 1 - i) 33 i (all.getD i [])).2, (laidK n all lack spoil i).2 ++ [all.getD i []]) := rfl
theorem range_getD {α : Type} (n : Nat) (f : Nat → α) (z : α) (q : Nat) (hq : q < n) : ((List.range n).map f).getD q z = f q := by
  simp [List.getD_eq_getElem?_getD, hq]
theorem drives_PH (n : Nat) : PH (drivesM n) (List.replicate n []) := by
  induction n with
  | zero => exact PH.nil
  | succ n ih =>
    have := ih.add
    rw [show List.replicate (n + 1) ([] : List Shd) = List.replicate n [] ++ [[]] from List.replicate_succ']
    exact this
theorem laidB_len (all : List Bytes) (hall : ∀ i, (all.getD i []).length ≤ 50) (spoil : UInt8) (j : Nat) : (laidB all spoil j).length ≤ 50 := by
  unfold laidB
  have := hall j
  split
  · rw [List.length_take]; omega
  · exact this
theorem laid_PH (n : Nat) (hn : n ≤ 7) (all : List Bytes) (hall : ∀ i, (all.getD i []).length ≤ 50) (lack spoil : UInt8) : ∀ i, i ≤ n → PH (laidK n all lack spoil i).1 (laidL n all lack spoil i) := by
  intro i
  induction i with
  | zero =>
    intro _
    have e : laidL n all lack spoil 0 = List.replicate n [] := by
      apply List.ext_getElem
      · simp [laidL]
      · intro q h1 h2
        have hqn : q < n := by simpa using h2
        simp only [laidL, List.getElem_map, List.getElem_range, List.getElem_replicate]
        rw [if_neg (fun h => by omega)]
    rw [e]; exact drives_PH n
  | succ i ih =>
    intro hi
    have h := ih (by omega)
    have hlen : (laidL n all lack spoil i).length = n := by simp [laidL]
    have hq : (laidL n all lack spoil i).getD (n - 1 - i) [] = [] := by
      unfold laidL
      rw [range_getD _ _ _ _ (by omega), if_neg (by omega)]
    have ec : ((n : Int) - 1 - i) = ((n - 1 - i : Nat) : Int) := by omega
    have ei : n - 1 - (n - 1 - i) = i := by omega
    have key : ∀ l : List Shd, (l = if bitB lack i = false then [(33, i, laidB all spoil i)] else []) → (laidL n all lack spoil i).set (n - 1 - i) l = laidL n all lack spoil (i + 1) := by
      intro l hl
      apply List.ext_getElem
      · simp [laidL]
      · intro q h1 h2
        have hqn : q < n := by simpa [laidL] using h2
        rw [List.getElem_set]
        simp only [laidL, List.getElem_map, List.getElem_range]
        by_cases e : n - 1 - i = q
        · subst e
          rw [if_pos rfl, ei, hl]
          by_cases hb : bitB lack i = false
          · rw [if_pos hb, if_pos ⟨by omega, hb⟩]
          · rw [if_neg hb, if_neg (fun h => hb h.2)]
        · rw [if_neg e]
          by_cases hc : n ≤ q + i
          · by_cases hb : bitB lack (n - 1 - q) = false
            · rw [if_pos ⟨hc, hb⟩, if_pos ⟨by omega, hb⟩]
            · rw [if_neg (fun h => hb h.2), if_neg (fun h => hb h.2)]
          · rw [if_neg (fun h => hc h.1), if_neg (fun h => by omega)]
    rw [laidK_succ]
    by_cases hb : bitB lack i = true
    · rw [if_pos hb, ← key [] (by rw [if_neg (by rw [hb]; simp)])]
      have e0 : (laidL n all lack spoil i).set (n - 1 - i) [] = laidL n all lack spoil i := by
        apply List.ext_getElem
        · simp
        · intro q h1 h2
          rw [List.getElem_set]
          split
          · rename_i e
            subst e
            rw [List.getD_eq_getElem?_getD, List.getElem?_eq_getElem h2, Option.getD_some] at hq
            exact hq.symm
          · rfl
      rw [e0]; exact h
    · have hbf : bitB lack i = false := by simpa using hb
      rw [if_neg hb]
      have hst := h.store (n - 1 - i) (by rw [hlen]; omega) (33, i, laidB all spoil i) ⟨(by show 33 ≤ 1073741824; decide), (by show i ≤ 255; omega), laidB_len all hall spoil i⟩ (by rw [hq]; simp) (by rw [hq]; intro y hy; cases hy)
      obtain ⟨m', e1, e2⟩ := hst
      rw [hq, List.nil_append, key _ (by rw [if_pos hbf])] at e2
      have e3 : (laidK n all lack spoil i).1.store ((n : Int) - 1 - i) 33 i (laidB all spoil i) = (0, m') := by rw [ec]; exact e1
      unfold laidB at e3
      split
      · rename_i hs
        rw [if_pos hs] at e3
        show PH ((laidK n all lack spoil i).1.store _ 33 i _).2 _
        rw [e3]; exact e2
      · rename_i hs
        rw [if_neg hs] at e3
        show PH ((laidK n all lack spoil i).1.store _ 33 i _).2 _
        rw [e3]; exact e2
theorem laid_have (n : Nat) (all : List Bytes) (lack spoil : UInt8) (i : Nat) : (laidK n all lack spoil i).2 = (List.range i).map (haveB all lack spoil) := by
  induction i with
  | zero => rfl
  | succ i ih =>
    rw [List.range_succ, List.map_append, ← ih, laidK_succ, List.map_singleton]
    unfold haveB
    cases bitB lack i <;> cases bitB spoil i <;> rfl
end Go.Proofs.Fl

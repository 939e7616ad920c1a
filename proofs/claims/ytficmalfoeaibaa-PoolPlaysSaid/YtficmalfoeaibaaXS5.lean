import Derived.Test.YtficmalfoeaibaaXS3
import Derived.Test.YtficmalfoeaibaaXG10toG14
import Derived.Test.YtficmalfoeaibaaXM2toM3
namespace Go.Proofs.Fl

/-! ### a laid stripe is gathered as it was laid -/
theorem laidL_get (n : Nat) (all : List Bytes) (lack spoil : UInt8) (j : Nat) (hj : j < n) : (laidL n all lack spoil n).getD (n - 1 - j) [] = if bitB lack j = false then [(33, j, laidB all spoil j)] else [] := by
  unfold laidL
  rw [range_getD _ _ _ _ (by omega), show n - 1 - (n - 1 - j) = j by omega]
  by_cases h : bitB lack j = false
  · rw [if_pos ⟨by omega, h⟩, if_pos h]
  · rw [if_neg (fun h' => h h'.2), if_neg h]
theorem laidL_length (n : Nat) (all : List Bytes) (lack spoil : UInt8) (i : Nat) : (laidL n all lack spoil i).length = n := by simp [laidL]
theorem locs_get (n j : Nat) (hj : j < n) : (locsM n n).getD j 0 = ((n - 1 - j : Nat) : Int) := by
  unfold locsM
  rw [range_getD _ _ _ _ hj]; omega
theorem laidB_eight (all : List Bytes) (spoil : UInt8) (j : Nat) (h8 : (all.getD j []).length = 8) : (laidB all spoil j).length = if bitB spoil j then 3 else 8 := by
  unfold laidB
  cases bitB spoil j
  · exact h8
  · show ((all.getD j []).take 3).length = 3
    rw [List.length_take, h8]; rfl
/-- What is there of a shard, in any pool that has of this stripe what was laid. -/
theorem shardOf_load {m : PM} {S d K : Int} {b : Bytes} {e : Nat} (h : m.load d S K = (b, e)) : shardOf m S d K = if e ≠ 0 ∨ b.length ≠ 8 then [] else b := by
  unfold shardOf; rw [h]
theorem laid_shard (n : Nat) (all : List Bytes) (hall : ∀ i, i < n → (all.getD i []).length = 8) {m : PM} {lack spoil : UInt8} (h : PH m (laidL n all lack spoil n)) (j : Nat) (hj : j < n) :
    shardOf m 33 ((locsM n n).getD j 0) j = haveB all lack spoil j := by
  rw [locs_get n j hj]
  have hg := laidL_get n all lack spoil j hj
  have hl := laidL_length n all lack spoil n
  have hb8 := laidB_eight all spoil j (hall j hj)
  unfold haveB
  by_cases hb : bitB lack j = false
  · rw [if_pos hb] at hg
    have hld := h.load (n - 1 - j) (by rw [hl]; omega) 0 (33, j, laidB all spoil j) (by rw [hg]; rfl) (by omega)
    have hs := shardOf_load (b := laidB all spoil j) (e := 0) hld
    change shardOf m 33 ((n - 1 - j : Nat) : Int) j = _ at hs
    rw [hs, hb8, hb]
    unfold laidB
    cases bitB spoil j <;> simp
  · rw [if_neg hb] at hg
    have hld := h.load_none (n - 1 - j) (by rw [hl]; omega) 33 j (by rw [hg]; intro y hy; cases hy)
    have hs := shardOf_load (b := []) (e := 7) hld
    change shardOf m 33 ((n - 1 - j : Nat) : Int) j = _ at hs
    rw [hs]
    have : bitB lack j = true := by simpa using hb
    rw [this]; rfl
theorem laid_gather (n : Nat) (all : List Bytes) (hall : ∀ i, i < n → (all.getD i []).length = 8) {m : PM} {lack spoil : UInt8} (h : PH m (laidL n all lack spoil n)) :
    gatherK m 33 (locsM n n) n = (List.range n).map (haveB all lack spoil) := by
  unfold gatherK
  exact List.map_congr_left fun j hj => laid_shard n all hall h j (List.mem_range.1 hj)
theorem laid_all50 (n : Nat) (all : List Bytes) (hl : all.length = n) (hall : ∀ i, i < n → (all.getD i []).length = 8) : ∀ i, (all.getD i []).length ≤ 50 := fun i => by
  by_cases h : i < n
  · rw [hall i h]; decide
  · rw [List.getD_eq_getElem?_getD, List.getElem?_eq_none (by omega)]; simp
/-- The pool that laid lays. -/
theorem laidM_PH (k m : Nat) (hk1 : 1 ≤ k) (hk : k ≤ 4) (hm : m ≤ 3) (d : Bytes) (lack spoil : UInt8) : PH (laidM k m d lack spoil).1 (laidL (k + m) (rencM k m (fullM k d)) lack spoil (k + m)) := by
  unfold laidM
  exact laid_PH (k + m) (by omega) _ (laid_all50 (k + m) _ (renc_length _ _ _) (fun i hi => renc_row k m _ hk1 (fullM_length k hk d) i hi)) lack spoil (k + m) (Nat.le_refl _)
theorem laidM_read (k m : Nat) (hk1 : 1 ≤ k) (hk : k ≤ 4) (_hm : m ≤ 3) (d : Bytes) (lack spoil : UInt8) {pm : PM} (h : PH pm (laidL (k + m) (rencM k m (fullM k d)) lack spoil (k + m))) :
    gatherK pm 33 (locsM (k + m) (k + m)) (k + m) = (laidM k m d lack spoil).2 := by
  rw [laid_gather (k + m) _ (fun i hi => renc_row k m _ hk1 (fullM_length k hk d) i hi) h]
  unfold laidM
  rw [laid_have]
theorem laidM_rows (k m : Nat) (d : Bytes) (lack spoil : UInt8) : (laidM k m d lack spoil).2.length = k + m := by
  unfold laidM; rw [laid_have]; simp
theorem laidM_row (k m : Nat) (d : Bytes) (lack spoil : UInt8) (i : Nat) (hi : i < k + m) : (laidM k m d lack spoil).2.getD i [] = haveB (rencM k m (fullM k d)) lack spoil i := by
  unfold laidM; rw [laid_have, range_getD _ _ _ _ hi]
theorem laidM_part (k m : Nat) (d : Bytes) (lack spoil : UInt8) : PartOf (laidM k m d lack spoil).2 k m (fullM k d) := by
  intro i hi
  rw [laidM_row _ _ _ _ _ _ hi]
  unfold haveB
  split
  · exact .inl rfl
  · exact .inr rfl
/-- So many shards are there. -/
def thereK (lack spoil : UInt8) (n : Nat) : Nat := ((List.range n).filter fun i => !(bitB lack i || bitB spoil i)).length
theorem laidM_sel (k m : Nat) (hk1 : 1 ≤ k) (hk : k ≤ 4) (d : Bytes) (lack spoil : UInt8) (h : k ≤ thereK lack spoil (k + m)) : (selB (laidM k m d lack spoil).2 k (k + m)).length = k := by
  refine selB_full _ _ _ ?_
  refine Nat.le_trans h (Nat.le_of_eq ?_)
  unfold thereK
  congr 1
  refine List.filter_congr fun i hi => ?_
  have hi' := List.mem_range.1 hi
  rw [laidM_row _ _ _ _ _ _ hi']
  unfold haveB
  cases bitB lack i || bitB spoil i
  · show true = decide (((rencM k m (fullM k d)).getD i []).length ≠ 0)
    rw [renc_row k m _ hk1 (fullM_length k hk d) i hi']; rfl
  · rfl
/-- Enough are there: the data. -/
theorem laidM_dec (k m : Nat) (hk1 : 1 ≤ k) (hk : k ≤ 4) (hm : m ≤ 3) (d : Bytes) (lack spoil : UInt8) (h : k ≤ thereK lack spoil (k + m)) : decM k m (laidM k m d lack spoil).2 = (fullM k d, 0) :=
  decM_part _ k m _ hk1 hk hm (fullM_length k hk d) (laidM_part k m d lack spoil) (laidM_sel k m hk1 hk d lack spoil h)

/-! ### what lasts -/
def Dry (d : DM) : Prop := d.lasts = List.replicate 8 []
def Wet (d : DM) : Prop := ∀ j, j < 8 → d.lasts.getD j [] = d.get j
theorem firstIn_all {q : Nat → Bool} {n : Nat} (h : firstIn q n = none) (j : Nat) (hj : j < n) : q j = false := by
  unfold firstIn at h
  rw [List.find?_eq_none] at h
  have := h j (List.mem_range.2 hj)
  simpa using this
theorem Dry.lasts {d : DM} (h : Dry d) (S K : Int) : d.lastsB S K = false := by
  unfold DM.lastsB
  rw [firstIn_none fun j hj => ?_]; rfl
  unfold Dry at h
  rw [h]
  have : (List.replicate 8 ([] : Bytes)).getD j [] = [] := by rw [List.getD_eq_getElem?_getD, List.getElem?_replicate]; split <;> rfl
  rw [this]; exact hasB_nil _ _
theorem Wet.lasts {d : DM} {l : List Shd} (hh : Has d l) (h : Wet d) (x : Shd) (hx : x ∈ l) : d.lastsB x.1 x.2.1 = true := by
  obtain ⟨j, hj, e⟩ := List.mem_iff_getElem.1 hx
  have hk := hh.ok x hx
  have hr := hh.room
  have hj1 : hasB x.1 x.2.1 (d.lasts.getD j []) = true := by
    rw [h j (by omega), hh.at_ j, List.getElem?_eq_getElem hj, e, shB_has x hk]; simp
  unfold DM.lastsB
  cases hf : firstIn (fun j => hasB x.1 x.2.1 (d.lasts.getD j [])) d.cap with
  | some a => rfl
  | none =>
    have h0 : hasB x.1 x.2.1 (d.lasts.getD j []) = false := firstIn_all hf j (by rw [hh.cap]; omega)
    rw [hj1] at h0; cases h0
theorem runW_all (ws : List (Nat × Bytes)) (ls : List Bytes) (j : Nat) (hj : j < ls.length) : ∀ k, (runW (fun _ => true) ws (0, []) k ls).getD j [] = lastW ws j k (ls.getD j []) := by
  intro k
  induction k with
  | zero => rfl
  | succ k ih =>
    show ((runW (fun _ => true) ws (0, []) k ls).set (ws.getD k (0, [])).1 (ws.getD k (0, [])).2).getD j [] = if (ws.getD k (0, [])).1 = j then (ws.getD k (0, [])).2 else lastW ws j k (ls.getD j [])
    by_cases e : (ws.getD k (0, [])).1 = j
    · rw [if_pos e, e, getD_set_eq _ _ _ _ (by rw [runW_length]; exact hj)]
    · rw [if_neg e, getD_set_ne _ _ _ _ _ e, ih]
theorem keep_get (d : DM) (j : Nat) (hj : j < d.cap) : (d.keep fun _ => true).get j = d.get j := by
  show (runW (fun _ => true) d.loose (0, []) d.loose.length d.lasts).getD j [] = _
  rw [runW_all d.loose d.lasts j hj]
  rfl
theorem Has.keep {d : DM} {l : List Shd} (h : Has d l) : Has (d.keep fun _ => true) l ∧ Wet (d.keep fun _ => true) := by
  have hc : (d.keep fun _ => true).cap = 8 := by rw [← h.cap]; show (runW _ _ _ _ _).length = _; rw [runW_length]; rfl
  refine ⟨⟨hc, h.alive, by show ([] : List (Nat × Bytes)).length ≤ _; simp, fun j => ?_, h.ok, h.room⟩, fun j hj => rfl⟩
  by_cases hj : j < 8
  · rw [keep_get d j (by rw [h.cap]; exact hj), h.at_]
  · have hr := h.room
    rw [List.getElem?_eq_none (by omega)]
    have hc' : (d.keep fun _ => true).lasts.length = 8 := hc
    show (d.keep fun _ => true).lasts.getD j [] = []
    rw [List.getD_eq_getElem?_getD, List.getElem?_eq_none (by omega)]; rfl
theorem setD_get5 (m : PM) (n i : Nat) (d : DM) (hn : n < m.list.length) : (m.setD n d).get i = if n = i then d else m.get i := by
  unfold PM.setD PM.get
  by_cases e : n = i
  · subst e; rw [if_pos rfl, getD_set_eq _ _ _ _ hn]
  · rw [if_neg e, getD_set_ne _ _ _ _ _ e]
theorem PH.flush {m : PM} {ls : List (List Shd)} (h : PH m ls) (n : Nat) (hn : n < ls.length) : ∃ m', m.flush n = (0, m') ∧ PH m' ls ∧ ∀ i, m'.get i = if n = i then (m.get n).keep fun _ => true else m.get i := by
  have hk := (h.has n hn).keep
  refine ⟨m.setD n ((m.get n).keep fun _ => true), ?_, ?_, fun i => setD_get5 _ _ _ _ (by rw [h.len]; exact hn)⟩
  · unfold PM.flush
    rw [if_neg (by rw [h.use n hn]; simp), h.burn, if_pos rfl]
    rfl
  · have := h.set n hn hk.1
    have e : ls.set n (ls.getD n []) = ls := by
      rw [List.getD_eq_getElem?_getD, List.getElem?_eq_getElem hn, Option.getD_some]; exact List.set_getElem_self hn
    rw [e] at this
    exact this
theorem store_dry (m : PM) (n S K : Int) (b : Bytes) (i : Nat) : ((m.store n S K b).2.get i).lasts = (m.get i).lasts := by
  unfold PM.store
  split
  · rfl
  · split
    · rfl
    · split
      · rfl
      · unfold PM.write
        rename_i h _ _ _ _
        have hn : n.toNat < m.list.length := by omega
        split
        · show ((m.burn.2.setD n.toNat _).get i).lasts = _
          rw [setD_get5 _ _ _ _ (by rw [burn_list]; exact hn)]
          split
          · rename_i e; rw [← e]; rfl
          · rw [burn_get]
        · rw [burn_get]
theorem drives_dry (n : Nat) : ∀ i, i < n → Dry ((drivesM n).get i) := by
  induction n with
  | zero => intro i hi; omega
  | succ n ih =>
    intro i hi
    unfold drivesM PM.add PM.get
    have hl := (drives_PH n).len
    rw [List.length_replicate] at hl
    by_cases h : i < n
    · rw [getD_snoc_lt _ _ _ _ (by omega)]; exact ih i h
    · obtain rfl : i = n := by omega
      have := getD_snoc_eq (drivesM i).list (DM.new (clampN 8)) dNone
      rw [hl] at this
      rw [this]; rfl
theorem laid_dry (n : Nat) (all : List Bytes) (lack spoil : UInt8) (k : Nat) : ∀ i, i < n → Dry ((laidK n all lack spoil k).1.get i) := by
  induction k with
  | zero => exact drives_dry n
  | succ k ih =>
    intro i hi
    rw [laidK_succ]
    split
    · exact ih i hi
    · split
      · unfold Dry; rw [store_dry]; exact ih i hi
      · unfold Dry; rw [store_dry]; exact ih i hi
theorem PH.lasts {m : PM} {ls : List (List Shd)} (h : PH m ls) (n : Nat) (hn : n < ls.length) (S K : Int) : m.lasts n S K = (m.get n).lastsB S K := by
  unfold PM.lasts
  rw [if_pos (by rw [h.len]; omega)]; rfl
end Go.Proofs.Fl

import Derived.Test.YtficmalfoeaibaaXX3toX5
import Derived.Test.YtficmalfoeaibaaXS11toS13
import Derived.Test.YtficmalfoeaibaaXQ1
namespace Go.Proofs.Fl

/-! ### a pool by what each slot of each drive has -/
abbrev Slots := Nat → Option Shd
def noS : Slots := fun _ => none
def findF (f : Slots) (c S K : Nat) : Option Nat := firstIn (fun j => match f j with | some x => decide (x.1 = S ∧ x.2.1 = K) | none => false) c
def freeF (f : Slots) (c : Nat) : Option Nat := firstIn (fun j => (f j).isNone) c
def putF (f : Slots) (j : Nat) (x : Option Shd) : Slots := fun i => if j = i then x else f i
def okS (x : Shd) : Prop := x.1 ≤ 1073741824 ∧ x.2.1 ≤ 255 ∧ x.2.2.length ≤ 50
structure HasF (t : Nat) (d : DM) (c : Nat) (f : Slots) : Prop where
  cap : d.cap = c
  alive : d.lost = false
  few : d.loose.length ≤ t
  at_ : ∀ j, j < c → d.get j = shB (f j)
  ok : ∀ j x, f j = some x → okS x
theorem firstIn_congr {p q : Nat → Bool} {n : Nat} (h : ∀ j, j < n → p j = q j) : firstIn p n = firstIn q n := by
  unfold firstIn
  induction n with
  | zero => rfl
  | succ n ih =>
    rw [List.range_succ, List.find?_append, List.find?_append, ih fun j hj => h j (by omega)]
    simp [List.find?, h n (by omega)]
theorem HasF.find {t : Nat} {d : DM} {c : Nat} {f : Slots} (h : HasF t d c f) (S K : Nat) : d.find S K = findF f c S K := by
  unfold DM.find findF
  rw [h.cap]
  refine firstIn_congr fun j hj => ?_
  rw [h.at_ j hj]
  cases hf : f j with
  | none => exact hasB_nil _ _
  | some x => exact shB_has x (h.ok j x hf) S K
theorem HasF.free {t : Nat} {d : DM} {c : Nat} {f : Slots} (h : HasF t d c f) : d.free1 = freeF f c := by
  unfold DM.free1 freeF
  rw [h.cap]
  refine firstIn_congr fun j hj => ?_
  rw [h.at_ j hj]
  cases hf : f j with
  | none => show (openF []).isNone = true; rw [openF_nil]; rfl
  | some x =>
    have hk := h.ok j x hf
    show (openF (frame x.1 x.2.1 x.2.2)).isNone = false
    rw [openF_frame _ _ _ (by have := hk.1; omega) (by have := hk.2.1; omega) hk.2.2]; rfl
theorem HasF.put {t : Nat} {d : DM} {c : Nat} {f : Slots} (h : HasF t d c f) (j : Nat) (x : Option Shd) (hx : ∀ y, x = some y → okS y) : HasF (t + 1) (d.put j (shB x)) c (putF f j x) where
  cap := h.cap
  alive := h.alive
  few := by have := h.few; simp [DM.put]; omega
  at_ := fun i hi => by
    rw [put_get]
    unfold putF
    split
    · rfl
    · exact h.at_ i hi
  ok := fun i y hy => by
    unfold putF at hy
    split at hy
    · exact hx y hy
    · exact h.ok i y hy
theorem HasF.more {t t' : Nat} {d : DM} {c : Nat} {f : Slots} (h : HasF t d c f) (ht : t ≤ t') : HasF t' d c f := { h with few := Nat.le_trans h.few ht }
theorem HasF.new (t : Nat) (s : Int) : HasF t (DM.new (clampN s)) (clampN s) noS := ⟨new_cap _, rfl, by simp [DM.new], fun j _ => by rw [new_get]; rfl, fun j x h => by cases h⟩
theorem HasF.keep {t : Nat} {d : DM} {c : Nat} {f : Slots} (h : HasF t d c f) : HasF t (d.keep fun _ => true) c f where
  cap := by rw [← h.cap]; show (runW _ _ _ _ _).length = _; rw [runW_length]; rfl
  alive := h.alive
  few := by show ([] : List (Nat × Bytes)).length ≤ _; simp
  at_ := fun j hj => by rw [keep_get d j (by rw [h.cap]; exact hj), h.at_ j hj]
  ok := h.ok
abbrev DrvL := List (Nat × Slots)
structure PQ (t : Nat) (m : PM) (ls : DrvL) : Prop where
  fuse : m.fuse = -1
  down : m.down = false
  len : m.list.length = ls.length
  has : ∀ i, i < ls.length → HasF t (m.get i) (ls.getD i (0, noS)).1 (ls.getD i (0, noS)).2
theorem PQ.of {m : PM} {ls : List (List Shd)} (h : PH m ls) : PQ 8 m (ls.map fun l => (8, fun j => l[j]?)) where
  fuse := h.fuse
  down := h.down
  len := by rw [List.length_map, h.len]
  has := fun i hi => by
    rw [List.length_map] at hi
    have hh := h.has i hi
    have e : (ls.map fun l => ((8 : Nat), (fun j => l[j]? : Slots))).getD i (0, noS) = (8, fun j => (ls.getD i [])[j]?) := by
      simp [List.getD_eq_getElem?_getD, List.getElem?_eq_getElem hi]
    rw [e]
    exact ⟨hh.cap, hh.alive, Nat.le_trans hh.few hh.room, fun j _ => hh.at_ j, fun j x hx => hh.ok x (List.mem_of_getElem? hx)⟩
theorem PQ.burn {t : Nat} {m : PM} {ls : DrvL} (h : PQ t m ls) : m.burn = (true, m) := by
  unfold PM.burn
  rw [if_neg (by rw [h.fuse, h.down]; simp), if_neg (by rw [h.fuse]; omega)]
theorem PQ.calm {t : Nat} {m : PM} {ls : DrvL} (h : PQ t m ls) (ht : t ≤ 1000) : m.calm := by
  intro i hi
  rw [h.len] at hi
  have := (h.has i hi).few; omega
theorem PQ.more {t t' : Nat} {m : PM} {ls : DrvL} (h : PQ t m ls) (ht : t ≤ t') : PQ t' m ls := { h with has := fun i hi => (h.has i hi).more ht }
theorem PQ.use {t : Nat} {m : PM} {ls : DrvL} (h : PQ t m ls) (n : Nat) (hn : n < ls.length) : m.use n = 0 := by
  unfold PM.use
  rw [if_pos (by rw [h.len]; omega)]
  change (if (m.get n).lost then 8 else 0) = 0
  rw [(h.has n hn).alive]; rfl
theorem PQ.add {t : Nat} {m : PM} {ls : DrvL} (h : PQ t m ls) (s : Int) : PQ t (m.add s) (ls ++ [(clampN s, noS)]) where
  fuse := h.fuse
  down := h.down
  len := by simp [PM.add, h.len]
  has := fun i hi => by
    rw [List.length_append, List.length_singleton] at hi
    unfold PM.get PM.add
    by_cases hl : i < ls.length
    · rw [getD_snoc_lt _ _ _ _ (by rw [h.len]; exact hl), getD_snoc_lt _ _ _ _ hl]; exact h.has i hl
    · obtain rfl : i = ls.length := by omega
      rw [getD_snoc_eq, ← h.len, getD_snoc_eq]; exact HasF.new t s
theorem PQ.set {t : Nat} {m : PM} {ls : DrvL} (h : PQ t m ls) (n : Nat) (hn : n < ls.length) {d : DM} {c : Nat} {f : Slots} (hd : HasF t d c f) : PQ t (m.setD n d) (ls.set n (c, f)) where
  fuse := h.fuse
  down := h.down
  len := by simp [PM.setD, h.len]
  has := fun i hi => by
    rw [List.length_set] at hi
    rw [setD_get5 _ _ _ _ (by rw [h.len]; exact hn)]
    by_cases e : n = i
    · subst e; rw [if_pos rfl, getD_set_eq _ _ _ _ hn]; exact hd
    · rw [if_neg e, getD_set_ne _ _ _ _ _ e]; exact h.has i hi
theorem PQ.store {t : Nat} {m : PM} {ls : DrvL} (h : PQ t m ls) (n : Nat) (hn : n < ls.length) (x : Shd) (hx : okS x) (c : Nat) (f : Slots) (hcf : ls.getD n (0, noS) = (c, f)) (j : Nat) (hj : (findF f c x.1 x.2.1).orElse (fun _ => freeF f c) = some j) :
    ∃ m', m.store n x.1 x.2.1 x.2.2 = (0, m') ∧ PQ (t + 1) m' (ls.set n (c, putF f j (some x))) := by
  have hh := h.has n hn
  rw [hcf] at hh
  refine ⟨m.setD n ((m.get n).put j (frame x.1 x.2.1 x.2.2)), ?_, (h.more (Nat.le_succ t)).set n hn (hh.put j (some x) (fun y e => by injection e with e; rw [← e]; exact hx))⟩
  have hx1 := hx.1; have hx2 := hx.2.1; have hx3 := hx.2.2
  unfold PM.store
  rw [if_neg (by rw [h.len]; omega)]
  change (if (m.get n).lost then (8, m) else match ((m.get n).find x.1 x.2.1).orElse (fun _ => (m.get n).free1) with | none => (3, m) | some j => m.write n j (frame x.1 x.2.1 x.2.2)) = _
  rw [if_neg (by rw [hh.alive]; simp), hh.find, hh.free, hj]
  show m.write n j _ = _
  unfold PM.write
  rw [h.burn, if_pos rfl]
theorem PQ.full {t : Nat} {m : PM} {ls : DrvL} (h : PQ t m ls) (n : Nat) (hn : n < ls.length) (x : Shd) (hx : okS x) (c : Nat) (f : Slots) (hcf : ls.getD n (0, noS) = (c, f)) (hj : (findF f c x.1 x.2.1).orElse (fun _ => freeF f c) = none) :
    m.store n x.1 x.2.1 x.2.2 = (3, m) := by
  have hh := h.has n hn
  rw [hcf] at hh
  have hx1 := hx.1; have hx2 := hx.2.1; have hx3 := hx.2.2
  unfold PM.store
  rw [if_neg (by rw [h.len]; omega)]
  change (if (m.get n).lost then (8, m) else match ((m.get n).find x.1 x.2.1).orElse (fun _ => (m.get n).free1) with | none => (3, m) | some j => m.write n j (frame x.1 x.2.1 x.2.2)) = _
  rw [if_neg (by rw [hh.alive]; simp), hh.find, hh.free, hj]
theorem PQ.erase {t : Nat} {m : PM} {ls : DrvL} (h : PQ t m ls) (n : Nat) (hn : n < ls.length) (S K : Nat) (c : Nat) (f : Slots) (hcf : ls.getD n (0, noS) = (c, f)) (j : Nat) (hj : findF f c S K = some j) :
    ∃ m', m.erase n S K = (0, m') ∧ PQ (t + 1) m' (ls.set n (c, putF f j none)) := by
  have hh := h.has n hn
  rw [hcf] at hh
  refine ⟨m.setD n ((m.get n).put j []), ?_, (h.more (Nat.le_succ t)).set n hn (hh.put j none (fun y e => by cases e))⟩
  unfold PM.erase
  rw [if_neg (by rw [h.use n hn]; simp)]
  change (match (m.get n).find S K with | none => (7, m) | some j => m.write n j []) = _
  rw [hh.find, hj]
  show m.write n j [] = _
  unfold PM.write
  rw [h.burn, if_pos rfl]
theorem PQ.flush {t : Nat} {m : PM} {ls : DrvL} (h : PQ t m ls) (n : Nat) (hn : n < ls.length) : ∃ m', m.flush n = (0, m') ∧ PQ t m' ls := by
  have hh := (h.has n hn).keep
  have e : ls.set n (ls.getD n (0, noS)) = ls := by
    rw [List.getD_eq_getElem?_getD, List.getElem?_eq_getElem hn, Option.getD_some]; exact List.set_getElem_self hn
  have := h.set n hn hh
  rw [show ((ls.getD n (0, noS)).1, (ls.getD n (0, noS)).2) = ls.getD n (0, noS) from rfl, e] at this
  refine ⟨m.setD n ((m.get n).keep fun _ => true), ?_, this⟩
  unfold PM.flush
  rw [if_neg (by rw [h.use n hn]; simp), h.burn, if_pos rfl]
  rfl
theorem PQ.load {t : Nat} {m : PM} {ls : DrvL} (h : PQ t m ls) (n : Nat) (hn : n < ls.length) (x : Shd) (c : Nat) (f : Slots) (hcf : ls.getD n (0, noS) = (c, f)) (j : Nat) (hjc : j < c) (hj : findF f c x.1 x.2.1 = some j) (hfj : f j = some x) :
    m.load n x.1 x.2.1 = (x.2.2, 0) := by
  have hh := h.has n hn
  rw [hcf] at hh
  have hk := hh.ok j x hfj
  unfold PM.load
  rw [if_neg (by rw [h.use n hn]; simp)]
  change (match (m.get n).find x.1 x.2.1 with | none => ([], 7) | some j => (match openF ((m.get n).get j) with | none => [] | some (_, _, b) => b, 0)) = _
  rw [hh.find, hj]
  show (match openF ((m.get n).get j) with | none => [] | some (_, _, b) => b, 0) = _
  rw [hh.at_ j hjc, show (c, f).2 j = some x from hfj]
  show (match openF (frame x.1 x.2.1 x.2.2) with | none => [] | some (_, _, b) => b, 0) = _
  rw [openF_frame _ _ _ (by have := hk.1; omega) (by have := hk.2.1; omega) hk.2.2]
theorem PQ.load_none {t : Nat} {m : PM} {ls : DrvL} (h : PQ t m ls) (n : Nat) (hn : n < ls.length) (S K : Nat) (c : Nat) (f : Slots) (hcf : ls.getD n (0, noS) = (c, f)) (hj : findF f c S K = none) : m.load n S K = ([], 7) := by
  have hh := h.has n hn
  rw [hcf] at hh
  unfold PM.load
  rw [if_neg (by rw [h.use n hn]; simp)]
  change (match (m.get n).find S K with | none => ([], 7) | some j => (match openF ((m.get n).get j) with | none => [] | some (_, _, b) => b, 0)) = _
  rw [hh.find, hj]
end Go.Proofs.Fl

namespace Go.Proofs.Fl
open Go.RowKit

/-- All of a stripe is at its places. -/
def Src (pm : PM) (n : Nat) (all : List Bytes) : Prop := ∀ j, j < n → pm.load ((n - 1 - j : Nat) : Int) 33 j = (all.getD j [], 0)
theorem one_src {pm : PM} (k m : Nat) (hk1 : 1 ≤ k) (hk : k ≤ 4) (hm : m ≤ 3) (d : Bytes) (h : Src pm (k + m) (rencM k m (fullM k d))) (a : Nat) (ha : a < k + m) :
    oneM k m pm 33 (locsM (k + m) (k + m)) a = ((rencM k m (fullM k d)).getD a [], 0) := by
  have h8 : ∀ i, i < k + m → ((rencM k m (fullM k d)).getD i []).length = 8 := fun i hi => renc_row k m _ hk1 (fullM_length k hk d) i hi
  have hg : gatherK pm 33 (locsM (k + m) (k + m)) (k + m) = (List.range (k + m)).map fun j => (rencM k m (fullM k d)).getD j [] := by
    unfold gatherK
    refine List.map_congr_left fun j hj => ?_
    have hj' := List.mem_range.1 hj
    rw [locs_get _ _ hj', shardOf_load (h j hj'), h8 j hj']; rfl
  have hget : ∀ i, i < k + m → ((List.range (k + m)).map fun j => (rencM k m (fullM k d)).getD j []).getD i [] = (rencM k m (fullM k d)).getD i [] := fun i hi => range_getD _ _ _ _ hi
  have hdec : decM k m ((List.range (k + m)).map fun j => (rencM k m (fullM k d)).getD j []) = (fullM k d, 0) := by
    refine decM_part _ k m _ hk1 hk hm (fullM_length k hk d) (fun i hi => .inr (hget i hi)) (selB_full _ _ _ ?_)
    have e : ((List.range (k + m)).filter fun i => decide ((((List.range (k + m)).map fun j => (rencM k m (fullM k d)).getD j []).getD i []).length ≠ 0)) = List.range (k + m) := by
      rw [List.filter_eq_self]
      intro i hi
      rw [hget i (List.mem_range.1 hi), h8 i (List.mem_range.1 hi)]; rfl
    rw [e, List.length_range]; omega
  unfold oneM
  rw [locsM_length, hg]
  unfold rebM
  rw [hdec, if_neg (by simp), if_neg (by omega)]
  rfl
def laidS (n : Nat) (all : List Bytes) (q : Nat) : Nat × Slots := (8, fun i => [((33, n - 1 - q, all.getD (n - 1 - q) []) : Shd)][i]?)
theorem laid_PQ (k m : Nat) (hk1 : 1 ≤ k) (hk : k ≤ 4) (hm : m ≤ 3) (d : Bytes) : PQ 8 (laidM k m d 0 0).1 ((List.range (k + m)).map (laidS (k + m) (rencM k m (fullM k d)))) := by
  have h := PQ.of (laidM_PH k m hk1 hk hm d 0 0)
  have e : (laidL (k + m) (rencM k m (fullM k d)) 0 0 (k + m)).map (fun l => ((8 : Nat), (fun j => l[j]? : Slots))) = (List.range (k + m)).map (laidS (k + m) (rencM k m (fullM k d))) := by
    unfold laidL
    rw [List.map_map]
    refine List.map_congr_left fun q hq => ?_
    have hq' := List.mem_range.1 hq
    simp only [Function.comp_apply]
    rw [if_pos ⟨by omega, bit0 _⟩, laidB0]
    rfl
  rw [e] at h
  exact h
theorem src_of {t : Nat} {pm : PM} {ls : DrvL} (h : PQ t pm ls) (n : Nat) (all : List Bytes) (hn : n ≤ ls.length) (hls : ∀ q, q < n → ls.getD q (0, noS) = laidS n all q) : Src pm n all := by
  intro j hj
  have hq := hls (n - 1 - j) (by omega)
  have ej : n - 1 - (n - 1 - j) = j := by omega
  refine h.load (n - 1 - j) (by omega) (33, j, all.getD j []) 8 _ hq 0 (by decide) ?_ (by rw [ej]; rfl)
  unfold findF
  refine firstIn_some (by decide) ?_ (by omega)
  rw [ej]
  simp

set_option maxHeartbeats 400000 in
set_option maxRecDepth 100000 in
theorem target_any {w : World} {K : Nat → Prop} {xb : Nat} {v : MV} (hM : MoveAt w K xb v) (h0 : 0 < v.target.length) (hn : v.target.length ≤ 1000) :
    Calls Try.prog 57 #[.pointer (some ⟨xb, 0, none⟩)] w fun e w' => ∃ b, e = .returned (.slice (some ⟨b, 0, none⟩) v.target.length v.target.length) ∧ Ns w' (Fresh w) (.slice (some ⟨b, 0, none⟩) v.target.length v.target.length) v.target ∧ Below w.heap.size w w' := by
  obtain ⟨lv, tv, pv, hx, hb, h1, h2, h3⟩ := hM
  have hc := clone93 h2 h0 hn
  obtain ⟨ta, tc, rfl, _⟩ := Ns.open_ h2
  generalize v.target = tg at *
  have c5 : w.cell? ⟨xb, 5, none⟩ = some (.slice ta tg.length tc) := blk_cell hb rfl
  have HC := Lib.hid hc
  clear hc hb h1 h2 h3
  go_enter Try.func57, Try.ntmps57
  go_wp2_with (fail)
  refine HC.out.mono ?_
  rintro e w1 ⟨b, c, rfl, hbc, hN, hb1⟩
  have HN := Lib.hid (Ns.clip hN); have HB := Lib.hid hb1
  clear hN hb1 HC
  go_wp2_with (go_at_call 97; refine (clip97 b tg.length c _ h0 hbc hn).mono ?_; rintro e wy ⟨rfl, rfl⟩)
  go_ret
  exact ⟨b, rfl, HN.out, HB.out⟩
end Go.Proofs.Fl

namespace Go.Proofs.Fl
open Go.RowKit

theorem Ns.lit (w : World) (T : TypeId) (fr : Nat × Nat) (l : List Int) (cs : Array Value) (h : cs.toList = l.map (Value.int .i64)) (hl : l.length ≤ 1000) : Ns (w.alloc (.cells cs T fr)) (fun b => b = w.heap.size) (.slice (some ⟨w.heap.size, 0, none⟩) l.length l.length) l := by
  refine ⟨_, l.length, by rw [List.length_map], by rw [List.length_map]; exact Nat.le_refl _, by unfold maxLen; omega, .inr ⟨w.heap.size, 0, rfl, rfl, by simp, fun j hj => ?_⟩⟩
  rw [List.length_map] at hj
  have hb : (w.alloc (.cells cs T fr)).heap[w.heap.size]? = some (.cells cs T fr) := heap_alloc_new w _
  unfold World.cell?
  simp only [hb, Nat.zero_add, Option.isSome_none, Bool.false_eq_true, if_false]
  rw [← Array.getElem?_toList, h]
  simp [List.getD_eq_getElem?_getD, hj]
/-! ### one shard, and one more place -/
def v11 : MV := ⟨1, 1, [1, 0], [2, 0], [0], 0, 0⟩
theorem v11_ok : MvOk v11 := ⟨by decide, by decide, by decide, rfl, rfl⟩
def ls11 (all : List Bytes) : DrvL := [laidS 2 all 0, laidS 2 all 1]
def row0 (d : Bytes) : Bytes := (rencM 1 1 (fullM 1 d)).getD 0 []
theorem row0_len (d : Bytes) : (row0 d).length = 8 := renc_row 1 1 _ (by decide) (fullM_length 1 (by decide) d) 0 (by decide)
theorem step11 (d : Bytes) : PQ 8 ((laidM 1 1 d 0 0).1.add 4) (ls11 (rencM 1 1 (fullM 1 d)) ++ [(4, noS)]) :=
  (laid_PQ 1 1 (by decide) (by decide) (by decide) d).add 4
theorem src11 {t : Nat} {pm : PM} {d : Bytes} {x : Nat × Slots} (h : PQ t pm (ls11 (rencM 1 1 (fullM 1 d)) ++ [x])) : Src pm 2 (rencM 1 1 (fullM 1 d)) :=
  src_of h 2 _ (by simp [ls11]) (fun q hq => by
    have : q = 0 ∨ q = 1 := by omega
    rcases this with rfl | rfl <;> rfl)
theorem one11 {t : Nat} {pm : PM} {d : Bytes} {x : Nat × Slots} (h : PQ t pm (ls11 (rencM 1 1 (fullM 1 d)) ++ [x])) : oneM 1 1 pm 33 [1, 0] 0 = (row0 d, 0) :=
  one_src 1 1 (by decide) (by decide) (by decide) d (src11 h) 0 (by decide)
/-- the copy -/
theorem copy11 {t : Nat} {pm : PM} {d : Bytes} (h : PQ t pm (ls11 (rencM 1 1 (fullM 1 d)) ++ [(4, noS)])) :
    ∃ pm', doM v11 pm 0 = (0, pm') ∧ PQ (t + 1) pm' (ls11 (rencM 1 1 (fullM 1 d)) ++ [(4, putF noS 0 (some (33, 0, row0 d)))]) := by
  have h1 := one11 h
  obtain ⟨m', e, h2⟩ := h.store 2 (by simp [ls11]) (33, 0, row0 d) ⟨by show 33 ≤ 1073741824; decide, by show 0 ≤ 255; decide, by show (row0 d).length ≤ 50; rw [row0_len]; decide⟩ 4 noS rfl 0 (by rfl)
  refine ⟨m', ?_, h2⟩
  show copyM v11 pm 0 = _
  unfold copyM
  show (if (oneM 1 1 pm 33 [1, 0] 0).2 ≠ 0 then _ else pm.store 2 33 0 (oneM 1 1 pm 33 [1, 0] 0).1) = _
  rw [h1]
  exact e
theorem load11 {t : Nat} {pm : PM} {d b : Bytes} (h : PQ t pm (ls11 (rencM 1 1 (fullM 1 d)) ++ [(4, putF noS 0 (some (33, 0, b)))])) : pm.load 2 33 0 = (b, 0) :=
  h.load 2 (by simp [ls11]) (33, 0, b) 4 _ rfl 0 (by decide) (by rfl) (by rfl)
theorem abc_row : row0 abc8 = abc8 := by decide +kernel

set_option maxHeartbeats 2000000 in
set_option maxRecDepth 100000 in
theorem answers18 (w : World) : Calls Try.prog 51 #[] w fun e w' => e = .returned (.bool true) ∧ Below w.heap.size w w' := by
  have kc := fun (w : World) (C : Array Value) (n c : Nat) => Lib.run_convert_bytes_const (P := Try.prog) w 28 5 C n c Try.underlying28 Try.underlying5
  go_enter Try.func51, Try.ntmps51
  go_wp2_with (fail)
  obtain ⟨wA, hwA⟩ : ∃ wA, (w.alloc (.cells #[.int .u8 97, .int .u8 98, .int .u8 99, .int .u8 100, .int .u8 101, .int .u8 102, .int .u8 103, .int .u8 104] 5 (8, 9))) = wA := ⟨_, rfl⟩
  have hba : Below w.heap.size w wA := by rw [← hwA]; exact (Below.refl _ _).alloc (Nat.le_refl _) _
  have hlb : Bs wA (fun b => b < wA.heap.size) (.slice (some ⟨w.heap.size, 0, none⟩) 8 8) abc8 := by
    rw [← hwA]; exact (Bs.lit w _ _ _ abc8 rfl (by decide)).mono (fun b _ h => by subst h; simp)
  rw [hwA]
  clear hwA
  refine (laid18_any 1 1 (by decide) (by decide) (by decide) (.inl hlb) (by decide) 0 0).mono ?_
  rintro e w2 ⟨pb, lv, tv, K, rfl, hK, hP, hN, hT, hb⟩
  clear hlb
  obtain ⟨lao, lc, rfl, _⟩ := hN.open_
  obtain ⟨tao, tc, rfl⟩ := hT.shape
  rw [show (1 + 1 : Nat) = 2 from rfl, locsM_length] at *
  have hstep := step11 abc8
  have hlen : (laidM 1 1 abc8 0 0).1.list.length = 2 := (laid_PQ 1 1 (by decide) (by decide) (by decide) abc8).len
  have hrl := laidM_rows 1 1 abc8 0 0
  rw [hrl]
  generalize (laidM 1 1 abc8 0 0).1 = pm at *
  obtain ⟨W, hW⟩ : ∃ W, w2.alloc (.cells #[.int .i64 33, .int .i64 0, .slice lao 2 lc] 67) = W := ⟨_, rfl⟩
  have hbW : Below w2.heap.size w2 W := by rw [← hW]; exact (Below.refl _ _).alloc (Nat.le_refl _) _
  have hcW : W.heap[w2.heap.size]? = some (.cells #[.int .i64 33, .int .i64 0, .slice lao 2 lc] 67 (0, 0)) := by rw [← hW]; exact heap_alloc_new _ _
  have hbs := hb.size
  obtain ⟨K', hK'⟩ : ∃ K' : Nat → Prop, (fun b => K b ∨ (w2.heap.size ≤ b ∧ b < W.heap.size)) = K' := ⟨_, rfl⟩
  have hPW := hP.more hbW
  rw [hK'] at hPW
  have k3 : ∀ b, K' b → b < W.heap.size := fun b h => by
    rw [← hK'] at h
    have := hbW.size
    rcases h with h | h
    · have := hK b h; omega
    · omega
  have k2 : K' w2.heap.size := by rw [← hK']; exact .inr ⟨Nat.le_refl _, blk_lt hcW⟩
  have hNW : Ns W K' (.slice lao 2 lc) (locsM 2 2) := Sv.mono (hN.below hbW) (fun b _ h => by rw [← hK']; exact .inl h)
  have hbw := hb.trans (hbW.mono hbs)
  have hadd := PF_add hPW k3 hbw.size 4 (by rw [hlen]; decide)
  have HADD := Lib.hid hadd; have HCW := Lib.hid hcW; have HNW := Lib.hid hNW; have HBW := Lib.hid hbw; have HST := Lib.hid hstep; have HK3 := Lib.hid k3
  have HBA := Lib.hid hba
  clear hadd hcW hNW hbw hstep k3 hK' hPW hbW hK hP hN hT hb hrl hba hbs
  unfold stripeV
  go_wp2_with (fail)
  refine HADD.out.mono ?_
  rintro e w3 ⟨rfl, hP3, hm3⟩
  have hc3 := blk_mod hm3 HCW.out (fun h => h.2 k2)
  have hN3 : Ns w3 K' (.slice lao 2 lc) (locsM 2 2) := Sv.kept HNW.out hm3 (fun b _ h h' => h'.2 h)
  have hb3 := below_mod HBW.out HBW.out.size hm3 (fun b h => h.1)
  have s0 : w3.cell? ⟨w2.heap.size, 0, none⟩ = some (.int .i64 33) := blk_cell hc3 rfl
  have s1 : w3.cell? ⟨w2.heap.size, 1, none⟩ = some (.int .i64 0) := blk_cell hc3 rfl
  have s2 : w3.cell? ⟨w2.heap.size, 2, none⟩ = some (.slice lao 2 lc) := blk_cell hc3 rfl
  have hm3s := hm3.size
  have HP3 := Lib.hid hP3; have HN3 := Lib.hid hN3; have HB3 := Lib.hid hb3
  have HLIT := Lib.hid (Ns.lit w3 3 (0, 0) [2, 0] #[.int .i64 2, .int .i64 0] rfl (by decide))
  clear hP3 hm3 hc3 hN3 hb3 HADD HCW HNW HBW hW
  go_wp2_with (fail)
  have hbl : Below w3.heap.size w3 (w3.alloc (.cells #[.int .i64 2, .int .i64 0] 3)) := (Below.refl _ _).alloc (Nat.le_refl _) _
  refine (movenew_any 1 1 (by decide) (by decide) (Sv.mono (HN3.out.below hbl) (T := fun _ => True) (fun _ _ _ => trivial)) (Sv.mono HLIT.out (T := fun _ => True) (fun _ _ _ => trivial)) (by decide) (by decide)).mono ?_
  rintro e w4 ⟨xb, rfl, hM, hb4⟩
  have hA3 : wA.heap.size ≤ w3.heap.size := HB3.out.size
  have hxb : w3.heap.size ≤ xb := Nat.le_trans hbl.size (by obtain ⟨_, _, _, h, _⟩ := hM; exact h)
  have hb34 : Below w3.heap.size w3 w4 := hbl.trans (hb4.mono hbl.size)
  obtain ⟨K4, hK4⟩ : ∃ K4 : Nat → Prop, (fun b => K' b ∨ (w3.heap.size ≤ b ∧ b < w4.heap.size)) = K4 := ⟨_, rfl⟩
  have hP4 := HP3.out.more hb34
  rw [hK4] at hP4
  have hb34s := hb34.size
  have k4 : ∀ b, K4 b → b < w4.heap.size := fun b h => by
    rw [← hK4] at h
    rcases h with h | h
    · have := HK3.out b h; omega
    · omega
  have hM4 : MoveAt w4 K4 xb v11 := MoveAt.mono hM (fun b hb h => by rw [← hK4]; exact .inr ⟨Nat.le_trans hbl.size h, hb⟩)
  have hb04 := HB3.out.trans (hb34.mono HB3.out.size)
  obtain ⟨pm', e1, hq⟩ := copy11 HST.out
  have hnx := next_step hP4 k4 hb04.size (HST.out.calm (by decide)) v11_ok hM4 0 (by decide) (by decide) (by decide) rfl (by decide)
  rw [e1] at hnx
  have HNX := Lib.hid hnx; have HB04 := Lib.hid hb04; have HQ := Lib.hid hq
  clear hnx hb04 hq hM4 hP4 hK4 k4 hb34 hb4 hbl hM HP3 HN3 HB3 HLIT s0 s1 s2 e1
  go_wp2_with (fail)
  refine HNX.out.mono ?_
  rintro e w5 ⟨rfl, hP5, hM5, hm5⟩
  have hb5 := below_mod HB04.out HB04.out.size hm5 (fun b h => h.elim (fun h => by omega) (fun h => h.1))
  have hm5s := hm5.size
  have hbw5 := HBA.out.trans (hb5.mono HBA.out.size)
  have hld := load11 HQ.out
  have hcl := L_load2 hP5.toL0 (HQ.out.calm (by decide)) 2 33 0
  rw [hld, abc_row] at hcl
  have HL := Lib.hid hcl; have HM5 := Lib.hid hM5; have HBW5 := Lib.hid hbw5
  clear hcl hld hP5 hM5 hm5 hb5 hbw5 HNX
  go_wp2_with (fail)
  refine HL.out.mono ?_
  rintro e w6 ⟨v6, rfl, hv6, hb6⟩
  have hcv := conv_bs (P := Try.prog) hv6 28 5 9 Try.underlying28 Try.underlying5 Try.underlying9
  obtain ⟨rao, rc, rfl⟩ := hv6.shape
  change Sem.run Try.prog (convert 28 9 (.slice rao 8 rc)) w6 = .ok (.string (baOf abc8)) w6 at hcv
  have hbb : (baOf abc8).toList = [97, 98, 99, 100, 101, 102, 103, 104] := by simp [baOf, abc8]
  have hl8 : abc8.length = 8 := rfl
  simp only [hl8]
  have HT6 := Lib.hid (target_any (HM5.out.below hb6) (by decide) (by decide))
  have HB6 := Lib.hid (HBW5.out.trans (hb6.mono HBW5.out.size))
  clear hv6 hb6 HL HM5 HBW5 kc
  go_wp2_with (go_at_call 57; refine HT6.out.mono ?_; rintro e w7 ⟨b7, rfl, _, hb7⟩)
  go_ret
  exact ⟨rfl, HB6.out.trans (hb7.mono HB6.out.size)⟩
end Go.Proofs.Fl

namespace Go.Proofs.Fl
open Go.RowKit

/-! ### MoveLooks: the pool -/
def v11b : MV := ⟨1, 1, [1, 0], [2, 0], [0], 1, 0⟩
def v11c : MV := ⟨1, 1, [1, 0], [2, 0], [0], 2, 0⟩
theorem v11b_ok : MvOk v11b := ⟨by decide, by decide, by decide, rfl, rfl⟩
theorem v11c_ok : MvOk v11c := ⟨by decide, by decide, by decide, rfl, rfl⟩
def ls11b (d b : Bytes) : DrvL := ls11 (rencM 1 1 (fullM 1 d)) ++ [(4, putF noS 0 (some (33, 0, b)))]
theorem flush11 {t : Nat} {pm : PM} {d b : Bytes} (h : PQ t pm (ls11b d b)) : ∃ pm', doM v11b pm 0 = (0, pm') ∧ PQ t pm' (ls11b d b) :=
  h.flush 2 (by simp [ls11b, ls11])
theorem over11 {t : Nat} {pm : PM} {d b : Bytes} (h : PQ t pm (ls11b d b)) (c : Bytes) (hc : c.length = 8) : ∃ pm', pm.store 2 33 0 c = (0, pm') ∧ PQ (t + 1) pm' (ls11b d c) := by
  obtain ⟨m', e, h2⟩ := h.store 2 (by simp [ls11b, ls11]) (33, 0, c) ⟨by show 33 ≤ 1073741824; decide, by show 0 ≤ 255; decide, by show c.length ≤ 50; rw [hc]; decide⟩ 4 _ rfl 0 (by rfl)
  refine ⟨m', e, ?_⟩
  have e2 : putF (putF noS 0 (some (33, 0, b))) 0 (some (33, 0, c)) = putF noS 0 (some (33, 0, c)) := by
    funext i; unfold putF; split <;> rfl
  rw [e2] at h2
  exact h2
theorem look11 {t : Nat} {pm : PM} {d b : Bytes} (h : PQ t pm (ls11b d b)) (hb : b ≠ row0 d) : doM v11c pm 0 = (12, pm) := by
  have h1 := one11 h
  have h2 := load11 h
  show (verM v11c pm 0, pm) = _
  have : verM v11c pm 0 = 12 := by
    show (if (pm.load 2 33 0).2 ≠ 0 then _ else if (oneM 1 1 pm 33 [1, 0] 0).2 ≠ 0 then _ else if (pm.load 2 33 0).1 = (oneM 1 1 pm 33 [1, 0] 0).1 then 0 else 12) = 12
    rw [h1, h2, if_neg (by simp), if_neg (by simp), if_neg hb]
  rw [this]
theorem erase11 {t : Nat} {pm : PM} {d b : Bytes} (h : PQ t pm (ls11b d b)) : ∃ pm', pm.erase 2 33 0 = (0, pm') ∧ pm'.load 2 33 0 = ([], 7) ∧ PQ (t + 1) pm' (ls11 (rencM 1 1 (fullM 1 d)) ++ [(4, putF (putF noS 0 (some (33, 0, b))) 0 none)]) := by
  obtain ⟨m', e, h2⟩ := h.erase 2 (by simp [ls11b, ls11]) 33 0 4 _ rfl 0 (by rfl)
  exact ⟨m', e, h2.load_none 2 (by simp [ls11b, ls11]) 33 0 4 _ rfl (by rfl), h2⟩
theorem gone11 {pm : PM} (h : pm.load 2 33 0 = ([], 7)) : doM v11c pm 0 = (7, pm) := by
  show (verM v11c pm 0, pm) = _
  have : verM v11c pm 0 = 7 := by
    show (if (pm.load 2 33 0).2 ≠ 0 then (pm.load 2 33 0).2 else _) = 7
    rw [h, if_pos (by decide)]
  rw [this]
theorem turned_ne (l : Bytes) (hl : l.length = 8) (x : UInt8) (hx : x ≠ 0) : l.set 3 (l.getD 3 0 ^^^ x) ≠ l := by
  intro e
  have : (l.set 3 (l.getD 3 0 ^^^ x)).getD 3 0 = l.getD 3 0 := by rw [e]
  rw [getD_set_eq _ _ _ _ (by omega)] at this
  have h2 : l.getD 3 0 ^^^ (l.getD 3 0 ^^^ x) = l.getD 3 0 ^^^ l.getD 3 0 := by rw [this]
  rw [← UInt8.xor_assoc, UInt8.xor_self, UInt8.zero_xor] at h2
  exact hx h2

theorem PF_erase {w : World} {B : Nat} {K : Nat → Prop} {pb : Nat} {m : PM} (h : PoolF w B K pb m) (hK : ∀ b, K b → b < w.heap.size) (hB : B ≤ w.heap.size) (hc : m.calm) (n S I : Int) :
    Calls Try.prog 21 #[.pointer (some ⟨pb, 0, none⟩), .int .i64 n, .int .i64 S, .int .i64 I] w fun e w' => e = .returned (.int .i64 (m.erase n S I).1) ∧ PoolF w' B K pb (m.erase n S I).2 ∧ Mod (fun b => B ≤ b ∧ ¬ K b) w w' := by
  obtain ⟨F, h1, h2⟩ := h
  refine (pool_erase h2 hc n S I).mono ?_
  rintro e w' ⟨rfl, hs⟩
  exact ⟨rfl, PoolF.step h1 hs hK hB⟩
set_option maxHeartbeats 4000000 in
set_option maxRecDepth 100000 in
theorem looks_law {dv : Value} {d : Bytes} {w : World} (hD : DatB w (fun b => b < w.heap.size) dv d) (hd0 : d.length ≤ maxLen) (x : UInt8) :
    Calls Try.prog 15 #[dv, .int .u8 x.toNat] w fun e w' => e = .returned (.bool true) ∧ Below w.heap.size w w' := by
  have HD := Lib.hid hD
  obtain ⟨dao, dc, rfl⟩ := hD.shape
  clear hD
  have hd0i : (d.length : Int) ≤ 9223372036854775807 := by unfold maxLen at hd0; omega
  by_cases hbig : 100 < d.length
  · have hbi : (100 : Int) < (d.length : Int) := by omega
    clear hd0
    go_enter Try.func15, Try.ntmps15
    go_wp2_with (go_at_call 51; refine (answers18 _).mono ?_; rintro e w1 ⟨rfl, hb1⟩)
    go_ret
    exact ⟨rfl, hb1⟩
  have hbi : ¬ (100 : Int) < (d.length : Int) := by omega
  clear hd0
  by_cases hx0 : x = 0
  · have hxi : (x.toNat : Int) = 0 := by rw [hx0]; rfl
    go_enter Try.func15, Try.ntmps15
    go_wp2_with (go_at_call 51; refine (answers18 _).mono ?_; rintro e w1 ⟨rfl, hb1⟩)
    go_ret
    exact ⟨rfl, hb1⟩
  have hxi : ¬ (x.toNat : Int) = 0 := fun e => hx0 (UInt8.toNat.inj (by have : x.toNat = 0 := by omega
                                                                        rw [this]; rfl))
  have hxb : ((x.toNat : Int) == 0) = false := by simp; omega
  have HX := Lib.hid hx0
  clear hx0
  go_enter Try.func15, Try.ntmps15
  go_wp2_with (fail)
  refine (laid18_any 1 1 (by decide) (by decide) (by decide) HD.out (by omega) 0 0).mono ?_
  rintro e w2 ⟨pb, lv, tv, K, rfl, hK, hP, hN, hT, hb⟩
  rw [show (1 + 1 : Nat) = 2 from rfl] at *
  have hstep := step11 d
  have hlen : (laidM 1 1 d 0 0).1.list.length = 2 := (laid_PQ 1 1 (by decide) (by decide) (by decide) d).len
  have hrl := laidM_rows 1 1 d 0 0
  have hr0 : (laidM 1 1 d 0 0).2.getD 0 [] = row0 d := by
    rw [laidM_row 1 1 d 0 0 0 (by decide)]; unfold haveB; rw [bit0]; rfl
  generalize (laidM 1 1 d 0 0).1 = pm at *
  generalize (laidM 1 1 d 0 0).2 = hav at *
  rw [show (1 + 1 : Nat) = 2 from rfl] at hrl
  obtain ⟨lb, lo, lc, rfl, lS, hlbl, _, hlc⟩ := Sv.cellAt hN (by decide)
  have hlc1 : w2.cell? ⟨lb, lo + 1, none⟩ = some (.int .i64 0) := hlc 1 (by decide)
  rw [show ((locsM 2 2).map (Value.int .i64)).length = 2 from rfl] at *
  obtain ⟨tb, to, tc, rfl, tS, htb, _, htr⟩ := hT.cellAt (by omega)
  obtain ⟨ra, rc, hrc, hrB⟩ := htr 0 (by omega)
  rw [hr0, row0_len] at hrc hrB
  rw [hrl]
  obtain ⟨W, hW⟩ : ∃ W, w2.alloc (.cells #[.int .i64 33, .int .i64 0, .slice (some ⟨lb, lo, none⟩) 2 lc] 67) = W := ⟨_, rfl⟩
  have hbW : Below w2.heap.size w2 W := by rw [← hW]; exact (Below.refl _ _).alloc (Nat.le_refl _) _
  have hcW : W.heap[w2.heap.size]? = some (.cells #[.int .i64 33, .int .i64 0, .slice (some ⟨lb, lo, none⟩) 2 lc] 67 (0, 0)) := by rw [← hW]; exact heap_alloc_new _ _
  have hbs := hb.size
  obtain ⟨K', hK'⟩ : ∃ K' : Nat → Prop, (fun b => K b ∨ (w2.heap.size ≤ b ∧ b < W.heap.size)) = K' := ⟨_, rfl⟩
  have hPW := hP.more hbW
  rw [hK'] at hPW
  have k3 : ∀ b, K' b → b < W.heap.size := fun b h => by
    rw [← hK'] at h
    have := hbW.size
    rcases h with h | h
    · have := hK b h; omega
    · omega
  have ka : ∀ b, K b → K' b := fun b h => by rw [← hK']; exact .inl h
  have k2 : K' w2.heap.size := by rw [← hK']; exact .inr ⟨Nat.le_refl _, blk_lt hcW⟩
  have hNW : Ns W K' (.slice (some ⟨lb, lo, none⟩) 2 lc) (locsM 2 2) := Sv.mono (hN.below hbW) (fun b _ h => ka b h)
  have hbw := hb.trans (hbW.mono hbs)
  have hadd := PF_add hPW k3 hbw.size 4 (by rw [hlen]; decide)
  have hrcW := (hbW.cell (p := ⟨tb, to + 0, none⟩) htb).trans hrc
  have hrBW : Bs W K' (.slice ra 8 rc) (row0 d) := (hrB.below hbW).mono (fun b _ h => ka b h)
  have htbW := Nat.lt_of_lt_of_le htb hbW.size
  have hlbW := Nat.lt_of_lt_of_le hlbl hbW.size
  have hlcW := (hbW.cell (p := ⟨lb, lo + 1, none⟩) hlbl).trans hlc1
  have klb := ka _ lS
  have ktb := ka _ tS
  have HADD := Lib.hid hadd; have HCW := Lib.hid hcW; have HNW := Lib.hid hNW; have HBW := Lib.hid hbw; have HST := Lib.hid hstep; have HK3 := Lib.hid k3; have HRC := Lib.hid hrcW; have HRB := Lib.hid hrBW; have HLC := Lib.hid hlcW
  clear hadd hcW hNW hbw hstep k3 hK' hPW hbW hK hP hN hT hb hrl hbs ka htr hrc hrB hlc hlc1 hrcW hrBW hlcW hr0
  unfold stripeV
  go_wp2_with (fail)
  refine HADD.out.mono ?_
  rintro e w3 ⟨rfl, hP3, hm3⟩
  have hc3 := blk_mod hm3 HCW.out (fun h => h.2 k2)
  have hN3 : Ns w3 K' (.slice (some ⟨lb, lo, none⟩) 2 lc) (locsM 2 2) := Sv.kept HNW.out hm3 (fun b _ h h' => h'.2 h)
  have hb3 := below_mod HBW.out HBW.out.size hm3 (fun b h => h.1)
  have s0 : w3.cell? ⟨w2.heap.size, 0, none⟩ = some (.int .i64 33) := blk_cell hc3 rfl
  have s1 : w3.cell? ⟨w2.heap.size, 1, none⟩ = some (.int .i64 0) := blk_cell hc3 rfl
  have s2 : w3.cell? ⟨w2.heap.size, 2, none⟩ = some (.slice (some ⟨lb, lo, none⟩) 2 lc) := blk_cell hc3 rfl
  have s3 := (hm3.cell (p := ⟨lb, lo + 1, none⟩) hlbW (fun h => h.2 klb)).trans HLC.out
  have r3 := (hm3.cell (p := ⟨tb, to + 0, none⟩) htbW (fun h => h.2 ktb)).trans HRC.out
  have rb3 := HRB.out.kept hm3 (fun b _ h h' => h'.2 h)
  have hm3s := hm3.size
  have hl3 := blk_lt hc3
  have hlb3 := Nat.lt_of_lt_of_le hlbW hm3s
  have htb3 := Nat.lt_of_lt_of_le htbW hm3s
  have hbd : Below w3.heap.size w3 (w3.drew.alloc (.cells #[.int .i64 2, .int .i64 0] 3)) := ((Below.refl _ w3).drew).alloc (Nat.le_refl _) _
  have hnew := movenew_any (w := w3.drew.alloc (.cells #[.int .i64 2, .int .i64 0] 3)) 1 1 (by decide) (by decide) (Sv.mono (hN3.below hbd) (T := fun _ => True) (fun _ _ _ => trivial)) (Sv.mono (Ns.lit w3.drew 3 (0, 0) [2, 0] #[.int .i64 2, .int .i64 0] rfl (by decide)) (T := fun _ => True) (fun _ _ _ => trivial)) (by decide) (by decide)
  have hnew2 := hnew.mono (R' := fun e w' => ∃ xb, e = .returned (.pointer (some ⟨xb, 0, none⟩)) ∧ (w3.heap.size ≤ xb ∧ MoveAt w' (Fresh w3) xb v11) ∧ Below w3.heap.size w3 w' ∧
      w'.cell? ⟨w2.heap.size, 0, none⟩ = some (.int .i64 33) ∧ w'.cell? ⟨w2.heap.size, 1, none⟩ = some (.int .i64 0) ∧ w'.cell? ⟨w2.heap.size, 2, none⟩ = some (.slice (some ⟨lb, lo, none⟩) 2 lc) ∧ w'.cell? ⟨lb, lo + 1, none⟩ = some (.int .i64 0)) (by
    rintro e w' ⟨xb, rfl, hM, hbl⟩
    have hb' := hbd.trans (hbl.mono hbd.size)
    have hxb := hM
    obtain ⟨_, _, _, hxx, _⟩ := hxb
    have hc' := (hb'.block _ hl3).trans hc3
    exact ⟨xb, rfl, ⟨Nat.le_trans hbd.size hxx, hM.mono (fun b _ h => Nat.le_trans hbd.size h)⟩, hb', blk_cell hc' rfl, blk_cell hc' rfl, blk_cell hc' rfl, (hb'.cell (p := ⟨lb, lo + 1, none⟩) hlb3).trans s3⟩)
  have HNEW := Lib.hid hnew2; have HP3 := Lib.hid hP3; have HB3 := Lib.hid hb3; have HR3 := Lib.hid r3; have HRB3 := Lib.hid rb3
  clear hnew hnew2 hP3 hm3 hc3 hN3 hb3 r3 rb3 HADD HCW HNW HBW HRC HRB HLC hW hbd
  go_wp2
  go_region_held3 (fun w' => w'.cell? ⟨w2.heap.size, 0, none⟩ = some (.int .i64 33) ∧ w'.cell? ⟨w2.heap.size, 1, none⟩ = some (.int .i64 0) ∧ w'.cell? ⟨w2.heap.size, 2, none⟩ = some (.slice (some ⟨lb, lo, none⟩) 2 lc) ∧ w'.cell? ⟨lb, lo + 1, none⟩ = some (.int .i64 0)) (go_keep) ((go_at_call 53; refine HNEW.out.mono ?_; rintro e w4 ⟨xb, rfl, hM, hb4, q0, q1, q2, q3⟩))
  obtain ⟨hxb3, hM⟩ := hM
  have hA3 := HB3.out.size
  have hb4s := hb4.size
  obtain ⟨K4, hK4⟩ : ∃ K4 : Nat → Prop, (fun b => K' b ∨ (w3.heap.size ≤ b ∧ b < w4.heap.size)) = K4 := ⟨_, rfl⟩
  have hP4 := HP3.out.more hb4
  rw [hK4] at hP4
  have k4 : ∀ b, K4 b → b < w4.heap.size := fun b h => by
    rw [← hK4] at h
    rcases h with h | h
    · have := HK3.out b h; omega
    · omega
  have k4a : ∀ b, K' b → K4 b := fun b h => by rw [← hK4]; exact .inl h
  have hM4 : MoveAt w4 K4 xb v11 := MoveAt.mono hM (fun b hb h => by rw [← hK4]; exact .inr ⟨h, hb⟩)
  have hb04 := HB3.out.trans (hb4.mono HB3.out.size)
  obtain ⟨pm1, e1, hq1⟩ := copy11 HST.out
  obtain ⟨pm2, e2, hq2⟩ := flush11 hq1
  have hnx := next_step hP4 k4 hb04.size (HST.out.calm (by decide)) v11_ok hM4 0 (by decide) (by decide) (by decide) rfl (by decide)
  rw [e1] at hnx
  have r4 := (hb4.cell (p := ⟨tb, to + 0, none⟩) htb3).trans HR3.out
  have rb4 : Bs w4 (fun b => K4 b ∧ b < w3.heap.size) (.slice ra 8 rc) (row0 d) := ((HRB3.out.mono (T := fun b => K' b ∧ b < w3.heap.size) (fun b hb h => ⟨h, hb⟩)).below hb4).mono (fun b _ h => ⟨k4a b h.1, h.2⟩)
  have ktb4 := k4a _ ktb
  have HNX := Lib.hid hnx; have HB04 := Lib.hid hb04; have HQ1 := Lib.hid hq1; have HQ2 := Lib.hid hq2; have E2 := Lib.hid e2; have R4 := Lib.hid r4; have RB4 := Lib.hid rb4; have K4L := Lib.hid k4
  have hxw : w.heap.size ≤ xb := by omega
  have htb4 := Nat.lt_of_lt_of_le htb3 hb4s
  have hs04 := hb04.size
  clear hnx hb04 hq1 hq2 hM4 hP4 hK4 k4 hb4 hM HP3 HB3 HR3 HRB3 s0 s1 s2 s3 e1 q0 q1 q2 q3 HNEW e2 r4 rb4
  go_wp2_with (fail)
  refine HNX.out.mono ?_
  rintro e w5 ⟨rfl, hP5, hM5, hm5⟩
  have hm5s := hm5.size
  have hnx2 := next_step hP5 (fun b h => Nat.lt_of_lt_of_le (K4L.out b h) hm5s) (Nat.le_trans hs04 hm5s) (HQ1.out.calm (by decide)) v11b_ok hM5 0 (by decide) (by decide) (by decide) rfl (by decide)
  rw [E2.out] at hnx2
  have hnt : ¬ (xb = tb ∨ (w.heap.size ≤ tb ∧ ¬ K4 tb)) ∨ xb = tb := by
    by_cases e : xb = tb
    · exact .inr e
    · exact .inl (fun h => h.elim e (fun h => h.2 ktb4))
  have hxtb : xb ≠ tb := by have := htb3; omega
  have r5 := (hm5.cell (p := ⟨tb, to + 0, none⟩) htb4 (fun h => h.elim (fun h => hxtb h.symm) (fun h => h.2 ktb4))).trans R4.out
  have HNX2 := Lib.hid hnx2; have R5 := Lib.hid r5; have HM5 := Lib.hid hm5
  clear hnx2 hP5 hM5 hm5 r5 hnt HNX
  go_wp2_with (fail)
  refine HNX2.out.mono ?_
  rintro e w6 ⟨rfl, hP6, hM6, hm6⟩
  have hm46 := HM5.out.trans hm6
  have hm6s := hm46.size
  have r6 := (hm6.cell (p := ⟨tb, to + 0, none⟩) (Nat.lt_of_lt_of_le htb4 hm5s) (fun h => h.elim (fun h => hxtb h.symm) (fun h => h.2 ktb4))).trans R5.out
  rw [Nat.add_zero] at r6
  have hb06 := below_mod HB04.out hs04 hm46 (fun b h => h.elim (fun h => by omega) (fun h => h.1))
  have rb6 := RB4.out.kept hm46 (fun b _ h h' => h'.elim (fun e => by have := h.2; omega) (fun h' => h'.2 h.1))
  have HP6 := Lib.hid hP6; have HM6 := Lib.hid hM6; have HB06 := Lib.hid hb06; have HL6 := Lib.hid (own_lit0 w6 w6.heap.size tU8 1 (Nat.le_refl _))
  have HRB6 := Lib.hid ((rb6.below ((Below.refl w6.heap.size w6).alloc (Nat.le_refl _) (.cells #[] tU8))).mono (T := fun _ => True) (fun _ _ _ => trivial))
  have htb6 := Nat.lt_of_lt_of_le htb4 hm6s
  have r6a : (w6.alloc (.cells #[] 5)).cell? ⟨tb, to, none⟩ = some (.slice ra 8 rc) := (Below.cell ((Below.refl w6.heap.size w6).alloc (Nat.le_refl _) (.cells #[] 5)) (p := ⟨tb, to, none⟩) htb6).trans r6
  have h88 : (row0 d).length = 8 := row0_len d
  have H88 := Lib.hid h88
  clear hP6 hM6 hm6 hm46 hb06 rb6 HNX2 HM5 R5 R4 RB4 h88
  go_wp2_with (at_builtin; refine wpList_app_bs rfl _ _ _ rfl E28 w6.heap.size HL6.out HRB6.out rfl rfl (by rw [H88.out]; decide) (by simp) ?_)
  intro v7 w7 ho7 hg7 _
  rw [H88.out] at ho7
  obtain ⟨g, gc, rfl⟩ := own_form ho7 (by decide)
  have hb67 := Grew.new ((Below.refl w6.heap.size w6).alloc (Nat.le_refl _) (.cells #[] tU8)) (by simp) hg7 (fun g hg => (HL6.out.lt g hg).1)
  have ho7' : w7.ownsRow w6.heap.size tU8 1 (.slice (some ⟨g, 0, none⟩) 8 gc) 8 (u8s (row0 d)) := by simpa using ho7
  have hgc : 8 ≤ gc := (Bs.of_own ho7' (fun _ => True) (fun _ _ _ => trivial)).cap
  have y3 : w7.cell? ⟨g, 3, none⟩ = some (.int .u8 (((row0 d).getD 3 0).toNat : Int)) := by rw [ho7'.cellAt 3 (by decide), u8s_at _ _ (by rw [H88.out]; decide)]
  have yf := ho7'.frozenAt 3
  have st := ho7'.stored 3 (.int .u8 (((row0 d).getD 3 0 ^^^ x).toNat : Int))
  rw [u8s_set] at st
  have hxx := xor_u8 ((row0 d).getD 3 0) x
  obtain ⟨bb, hbb⟩ : ∃ bb, (row0 d).set 3 ((row0 d).getD 3 0 ^^^ x) = bb := ⟨_, rfl⟩
  have hne : bb ≠ row0 d := by rw [← hbb]; exact turned_ne _ H88.out x HX.out
  have hbl8 : bb.length = 8 := by rw [← hbb, List.length_set]; exact H88.out
  rw [hbb] at st
  have hb68 := (Below.refl w6.heap.size w6).trans hb67
  have hg6 := (ho7'.lt g rfl).1
  have hb6s := hb67.size
  have hbs8 := hb68.setCell (p := ⟨g, 3, none⟩) hg6 (.int .u8 (((row0 d).getD 3 0 ^^^ x).toNat : Int))
  rw [UInt8.toNat_xor] at st hbs8
  have HST8 := Lib.hid st; have HB68 := Lib.hid hbs8; have HNE := Lib.hid hne; have HBL := Lib.hid hbl8
  have hl7 := (ho7'.lt g rfl).2
  clear ho7 ho7' hg7 hb67 st hne hbl8 hb68 hbs8 HL6 HRB6 hbb r6 r6a
  generalize (row0 d).getD 3 0 = z3 at *
  go_wp2_with (fail)
  obtain ⟨w8, hw8⟩ : ∃ w8, w7.setCell ⟨g, 3, none⟩ (.int .u8 ((z3.toNat ^^^ x.toNat : Nat) : Int)) = w8 := ⟨_, rfl⟩
  rw [hw8] at HST8 HB68 ⊢
  clear hw8
  have hB8 : Bs w8 (fun b => w6.heap.size ≤ b) (.slice (some ⟨g, 0, none⟩) 8 gc) bb := by
    have := Bs.of_own HST8.out.1 (fun b => w6.heap.size ≤ b) (fun b hb _ => hb)
    exact this
  have hb68s := HB68.out.size
  have hP8 := HP6.out.more HB68.out
  obtain ⟨K8, hK8⟩ : ∃ K8 : Nat → Prop, (fun b => K4 b ∨ (w6.heap.size ≤ b ∧ b < w8.heap.size)) = K8 := ⟨_, rfl⟩
  rw [hK8] at hP8
  have k8 : ∀ b, K8 b → b < w8.heap.size := fun b h => by
    rw [← hK8] at h
    rcases h with h | h
    · have := K4L.out b h; omega
    · omega
  have hM8 : MoveAt w8 K8 xb v11c := (HM6.out.below HB68.out).mono (fun b _ h => by rw [← hK8]; exact .inl h)
  have hb08 := HB06.out.trans (HB68.out.mono HB06.out.size)
  have hs08 := hb08.size
  obtain ⟨pm3, e3, hq3⟩ := over11 HQ2.out bb HBL.out
  have hl3 := look11 hq3 HNE.out
  obtain ⟨pm4, e4, hld4, hq4⟩ := erase11 hq3
  have hl4 := gone11 hld4
  have hst := PF_store hP8 k8 hs08 (HQ2.out.calm (by decide)) 2 33 0 hB8
  rw [e3] at hst
  have HSTO := Lib.hid hst; have HM8 := Lib.hid hM8; have HB08 := Lib.hid hb08; have HQ3 := Lib.hid hq3; have HQ4 := Lib.hid hq4; have L3 := Lib.hid hl3; have L4 := Lib.hid hl4; have E4 := Lib.hid e4; have K8L := Lib.hid k8
  have hxw8 : w.heap.size ≤ xb := hxw
  clear hst hM8 hb08 hq3 hq4 hl3 hl4 e3 e4 hld4 hK8 k8 hP8 hB8 HST8 HP6 HM6 HB06
  go_wp2_with (fail)
  refine HSTO.out.mono ?_
  rintro e w9 ⟨rfl, hP9, hm9⟩
  have hm9s := hm9.size
  have hM9 := HM8.out.kept hm9 (fun b h h' => h'.2 h)
  have hb09 := below_mod HB08.out hs08 hm9 (fun b h => h.1)
  have hnx3 := next_step hP9 (fun b h => Nat.lt_of_lt_of_le (K8L.out b h) hm9s) hb09.size (HQ3.out.calm (by decide)) v11c_ok hM9 0 (by decide) (by decide) (by decide) rfl (by decide)
  rw [L3.out] at hnx3
  have HNX3 := Lib.hid hnx3; have HB09 := Lib.hid hb09
  have hs09 := hb09.size
  clear hnx3 hP9 hM9 hb09 hm9 HSTO HM8 HB08
  go_wp2_with (fail)
  refine HNX3.out.mono ?_
  rintro e w10 ⟨rfl, hP10, hM10, hm10⟩
  have hm10s := hm10.size
  have hb10 := below_mod HB09.out hs09 hm10 (fun b h => h.elim (fun h => by omega) (fun h => h.1))
  have her := PF_erase hP10 (fun b h => Nat.lt_of_lt_of_le (Nat.lt_of_lt_of_le (K8L.out b h) hm9s) hm10s) hb10.size (HQ3.out.calm (by decide)) 2 33 0
  rw [E4.out] at her
  have HER := Lib.hid her; have HM10 := Lib.hid hM10; have HB10 := Lib.hid hb10
  have hs10 := hb10.size
  clear her hP10 hM10 hb10 hm10 HNX3 HB09
  go_wp2_with (fail)
  refine HER.out.mono ?_
  rintro e w11 ⟨rfl, hP11, hm11⟩
  have hm11s := hm11.size
  have hM11 := HM10.out.kept hm11 (fun b h h' => h'.2 h)
  have hb11 := below_mod HB10.out hs10 hm11 (fun b h => h.1)
  have hnx4 := next_step hP11 (fun b h => Nat.lt_of_lt_of_le (Nat.lt_of_lt_of_le (Nat.lt_of_lt_of_le (K8L.out b h) hm9s) hm10s) hm11s) hb11.size (HQ4.out.calm (by decide)) v11c_ok hM11 0 (by decide) (by decide) (by decide) rfl (by decide)
  rw [L4.out] at hnx4
  have HNX4 := Lib.hid hnx4; have HB11 := Lib.hid hb11
  have hs11 := hb11.size
  clear hnx4 hP11 hM11 hb11 hm11 HER HM10 HB10
  go_wp2_with (fail)
  refine HNX4.out.mono ?_
  rintro e w12 ⟨rfl, _, _, hm12⟩
  have HB12 := Lib.hid (below_mod HB11.out hs11 hm12 (fun b h => h.elim (fun h => by omega) (fun h => h.1)))
  clear hm12 HNX4 HB11
  go_wp2_with (go_at_call 51; refine (answers18 _).mono ?_; rintro e w13 ⟨rfl, hb13⟩)
  go_ret
  exact ⟨rfl, HB12.out.trans (hb13.mono HB12.out.size)⟩
end Go.Proofs.Fl

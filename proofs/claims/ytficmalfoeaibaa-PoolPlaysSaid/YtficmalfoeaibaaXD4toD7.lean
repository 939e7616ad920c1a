import Derived.Test.YtficmalfoeaibaaXL1
namespace Go.Proofs.Fl
open Go.RowKit

theorem own_block1 {w : World} {base e n c g : Nat} {xs : List Value} (h : w.ownsRow base e 1 (.slice (some ⟨g, 0, none⟩) n c) n xs) (hc : c = n) : w.heap[g]? = some (.cells xs.toArray e (0, 0)) := by
  rcases h.2 with ⟨h, _⟩ | ⟨g', cap, cur, he, _, hg, hn, _, hs, ht⟩
  · cases h
  · injection he with h1 h2 h3
    injection h1 with h1
    injection h1 with h1
    subst h1; subst h3; subst hc
    rw [hg]
    have : cur.toList.take (c * 1) = cur.toList := List.take_of_length_le (by simp [hs])
    rw [this] at ht
    rw [← ht]

theorem E59 : Elem Try.prog 59 tBytes (.slice none 0 0) 1 24 := ⟨Try.underlying59, by kernel_rfl, by decide, by decide⟩

def NewP (w : World) (n : Nat) (v : Value) (w' : World) : Prop :=
  ∃ db lb, v = .pointer (some ⟨db, 0, none⟩) ∧ w.heap.size ≤ db ∧ w.heap.size ≤ lb ∧ lb ≠ db ∧ Below w.heap.size w w' ∧
    w'.heap[lb]? = some (.cells (List.replicate n (.slice none 0 0)).toArray tBytes (0, 0)) ∧
    w'.heap[db]? = some (.cells #[.slice (some ⟨lb, 0, none⟩) n n, .slice none 0 0, .bool false] tDrive (0, 0))

/-- so many slots -/
def clampN (s : Int) : Nat := if s < 0 then 0 else if 128 < s then 128 else s.toNat

set_option maxHeartbeats 1000000 in
set_option maxRecDepth 100000 in
theorem drive_new (s : Int) (w : World) : Calls Try.prog 60 #[.int .i64 s] w fun e w' => ∃ v, e = .returned v ∧ NewP w (clampN s) v w' := by
  obtain ⟨i0, hi, hz0, hz1, hz2⟩ := info_parts E59.info
  have HI := Lib.hid hi; have HZ0 := Lib.hid hz0; have HZ1 := Lib.hid hz1; have HZ2 := Lib.hid hz2
  clear hi hz0 hz1 hz2
  unfold clampN
  by_cases h1 : s < 0
  · rw [if_pos h1]
    go_enter Try.func60, Try.ntmps60
    go_wp2_with (at_make; refine wpList_make_full _ rfl _ _ _ rfl w.heap.size _ i0 _ 1 Try.underlying59 HI.out HZ0.out HZ1.out .i64 .i64 _ _ 0 rfl rfl rfl rfl (by rw [HZ2.out]; omega) (by unfold maxLen; omega) (Nat.le_refl _) ?_)
    intro w1 hown hg
    have hb := own_block1 hown rfl
    have hbel : Below w.heap.size w w1 := (Below.refl _ _).grown hg (Nat.le_refl _) (fun k h => by cases h)
    have hsz := blk_lt hb
    have ez : (madeCells #[Value.slice none 0 0] 0).toList = List.replicate 0 (.slice none 0 0) := toList_madeCells_one _ _
    rw [ez] at hb
    have HB := Lib.hid hb; have HS := Lib.hid hsz; clear hb hown hg ez hsz
    go_wp2
    go_ret
    refine ⟨_, rfl, w1.heap.size, w.heap.size, rfl, hbel.size, Nat.le_refl _, Nat.ne_of_lt HS.out, hbel.alloc hbel.size _, blk_alloc HB.out _, heap_alloc_new w1 _⟩
  · rw [if_neg h1]
    by_cases h2 : 128 < s
    · rw [if_pos h2]
      go_enter Try.func60, Try.ntmps60
      go_wp2_with (at_make; refine wpList_make_full _ rfl _ _ _ rfl w.heap.size _ i0 _ 1 Try.underlying59 HI.out HZ0.out HZ1.out .i64 .i64 _ _ 128 rfl rfl rfl rfl (by rw [HZ2.out]; omega) (by unfold maxLen; omega) (Nat.le_refl _) ?_)
      intro w1 hown hg
      have hb := own_block1 hown rfl
      have hbel : Below w.heap.size w w1 := (Below.refl _ _).grown hg (Nat.le_refl _) (fun k h => by cases h)
      have hsz := blk_lt hb
      have ez : (madeCells #[Value.slice none 0 0] 128).toList = List.replicate 128 (.slice none 0 0) := toList_madeCells_one _ _
      rw [ez] at hb
      have HB := Lib.hid hb; have HS := Lib.hid hsz; clear hb hown hg ez hsz
      go_wp2
      go_ret
      refine ⟨_, rfl, w1.heap.size, w.heap.size, rfl, hbel.size, Nat.le_refl _, Nat.ne_of_lt HS.out, hbel.alloc hbel.size _, blk_alloc HB.out _, heap_alloc_new w1 _⟩
    · rw [if_neg h2]
      obtain ⟨n, rfl⟩ : ∃ n : Nat, s = n := ⟨s.toNat, by omega⟩
      have en : ((n : Int)).toNat = n := rfl
      rw [en]
      clear en
      go_enter Try.func60, Try.ntmps60
      go_wp2_with (at_make; refine wpList_make_full _ rfl _ _ _ rfl w.heap.size _ i0 _ 1 Try.underlying59 HI.out HZ0.out HZ1.out .i64 .i64 _ _ n rfl rfl rfl rfl (by rw [HZ2.out]; omega) (by unfold maxLen; omega) (Nat.le_refl _) ?_)
      intro w1 hown hg
      have hb := own_block1 hown rfl
      have hbel : Below w.heap.size w w1 := (Below.refl _ _).grown hg (Nat.le_refl _) (fun k h => by cases h)
      have hsz := blk_lt hb
      have ez : (madeCells #[Value.slice none 0 0] n).toList = List.replicate n (.slice none 0 0) := toList_madeCells_one _ _
      rw [ez] at hb
      have HB := Lib.hid hb; have HS := Lib.hid hsz; clear hb hown hg ez hsz
      go_wp2
      go_ret
      refine ⟨_, rfl, w1.heap.size, w.heap.size, rfl, hbel.size, Nat.le_refl _, Nat.ne_of_lt HS.out, hbel.alloc hbel.size _, blk_alloc HB.out _, heap_alloc_new w1 _⟩
end Go.Proofs.Fl

namespace Go.Proofs.Fl
open Go.RowKit

set_option maxHeartbeats 400000 in
set_option maxRecDepth 100000 in
theorem lose_walk (db : Nat) (lv ov : Value) (x : Bool) (w : World) (hD : w.heap[db]? = some (.cells #[lv, ov, .bool x] tDrive (0, 0))) :
    Calls Try.prog 39 #[.pointer (some ⟨db, 0, none⟩)] w fun e w' => e = .returned (.tuple #[]) ∧ Mod (fun b => b = db) w w' ∧ w'.heap[db]? = some (.cells #[.slice none 0 0, .slice none 0 0, .bool true] tDrive (0, 0)) := by
  have h0 : w.cell? ⟨db, 0, none⟩ = some lv := blk_cell hD rfl
  have h1 : w.cell? ⟨db, 1, none⟩ = some ov := blk_cell hD rfl
  have h2 : w.cell? ⟨db, 2, none⟩ = some (.bool x) := blk_cell hD rfl
  have f0 := blk_free hD 0
  have f1 := blk_free hD 1
  have f2 := blk_free hD 2
  have HD := Lib.hid hD; clear hD
  go_enter Try.func39, Try.ntmps39
  go_wp2
  go_end0
  refine ⟨rfl, ?_, ?_⟩
  · exact (((Mod.refl (fun b => b = db) w).setCell (p := ⟨db, 0, none⟩) (fun _ => rfl) _).setCell (p := ⟨db, 1, none⟩) (fun _ => rfl) _).setCell (p := ⟨db, 2, none⟩) (fun _ => rfl) _
  · exact blk_set (blk_set (blk_set HD.out 0 _) 1 _) 2 _
theorem lose_nil (w : World) : Calls Try.prog 39 #[.pointer none] w fun e w' => e = .returned (.tuple #[]) ∧ w = w' := by
  go_enter Try.func39, Try.ntmps39
  go_wp2
  go_end0
  exact ⟨rfl, rfl⟩

/-! ### A drive in memory. F: the blocks that are its own. -/
def Im (F : Nat → Prop) (db lb : Nat) (ov : Value) (b : Nat) : Prop := F b ∧ b ≠ db ∧ b ≠ lb ∧ ov.ownBlock ≠ some b

structure Live (w : World) (F : Nat → Prop) (db lb : Nat) (ov : Value) (lvs : List Value) (ovs : List (Nat × Value)) (d : DM) : Prop where
  blk : w.heap[db]? = some (.cells #[.slice (some ⟨lb, 0, none⟩) d.lasts.length d.lasts.length, ov, .bool false] tDrive (0, 0))
  row : w.heap[lb]? = some (.cells lvs.toArray tBytes (0, 0))
  fdb : F db
  flb : F lb
  ne : lb ≠ db
  own : w.ownsRow 0 tWrite 2 ov d.loose.length (wcells ovs)
  ownF : ∀ g, ov.ownBlock = some g → F g ∧ g ≠ db ∧ g ≠ lb
  len : lvs.length = d.lasts.length
  olen : ovs.length = d.loose.length
  at_ : ∀ i, i < d.lasts.length → Bs w (Im F db lb ov) (lvs.getD i undef) (d.lasts.getD i []) ∧ (d.lasts.getD i []).length ≤ 64
  oat : ∀ i, i < d.loose.length → (ovs.getD i (0, undef)).1 = (d.loose.getD i (0, [])).1 ∧ (d.loose.getD i (0, [])).1 < d.lasts.length ∧ Bs w (Im F db lb ov) (ovs.getD i (0, undef)).2 (d.loose.getD i (0, [])).2 ∧ (d.loose.getD i (0, [])).2.length ≤ 64
  few : d.lasts.length ≤ 128

structure DriveAt (w : World) (F : Nat → Prop) (db : Nat) (d : DM) : Prop where
  here : ∀ b, F b → b < w.heap.size
  is : (d.lost = true ∧ d.lasts = [] ∧ d.loose = [] ∧ F db ∧ w.heap[db]? = some (.cells #[.slice none 0 0, .slice none 0 0, .bool true] tDrive (0, 0))) ∨
    (d.lost = false ∧ ∃ lb ov lvs ovs, Live w F db lb ov lvs ovs d)

/-- F and what is new since w. -/
def Ext (F : Nat → Prop) (w w' : World) (b : Nat) : Prop := F b ∨ (w.heap.size ≤ b ∧ b < w'.heap.size)

theorem Live.kept {w w' : World} {F T : Nat → Prop} {db lb : Nat} {ov : Value} {lvs : List Value} {ovs : List (Nat × Value)} {d : DM} (h : Live w F db lb ov lvs ovs d) (hm : Mod T w w') (hT : ∀ b, F b → ¬ T b) : Live w' F db lb ov lvs ovs d where
  blk := blk_mod hm h.blk (hT _ h.fdb)
  row := blk_mod hm h.row (hT _ h.flb)
  fdb := h.fdb
  flb := h.flb
  ne := h.ne
  own := own_mod h.own hm fun g hg => hT g (h.ownF g hg).1
  ownF := h.ownF
  len := h.len
  olen := h.olen
  at_ := fun i hi => ⟨(h.at_ i hi).1.kept hm fun k _ hk => hT k hk.1, (h.at_ i hi).2⟩
  oat := fun i hi => ⟨(h.oat i hi).1, (h.oat i hi).2.1, (h.oat i hi).2.2.1.kept hm fun k _ hk => hT k hk.1, (h.oat i hi).2.2.2⟩
  few := h.few
theorem DriveAt.kept {w w' : World} {F T : Nat → Prop} {db : Nat} {d : DM} (h : DriveAt w F db d) (hm : Mod T w w') (hT : ∀ b, F b → ¬ T b) : DriveAt w' F db d := by
  refine ⟨fun b hb => Nat.lt_of_lt_of_le (h.here b hb) hm.size, ?_⟩
  rcases h.is with ⟨h1, h2, h3, h4, h5⟩ | ⟨h1, lb, ov, lvs, ovs, hl⟩
  · exact .inl ⟨h1, h2, h3, h4, blk_mod hm h5 (hT _ h4)⟩
  · exact .inr ⟨h1, lb, ov, lvs, ovs, hl.kept hm hT⟩
theorem DriveAt.below {w w' : World} {F : Nat → Prop} {db : Nat} {d : DM} (h : DriveAt w F db d) (hb : Below w.heap.size w w') : DriveAt w' F db d := h.kept (Mod.of_below (fun _ => False) hb) fun _ _ => id
theorem DriveAt.mono {w : World} {F G : Nat → Prop} {db : Nat} {d : DM} (h : DriveAt w F db d) (hFG : ∀ b, F b → G b) (hG : ∀ b, G b → b < w.heap.size) : DriveAt w G db d := by
  refine ⟨hG, ?_⟩
  rcases h.is with ⟨h1, h2, h3, h4, h5⟩ | ⟨h1, lb, ov, lvs, ovs, hl⟩
  · exact .inl ⟨h1, h2, h3, hFG _ h4, h5⟩
  · exact .inr ⟨h1, lb, ov, lvs, ovs, { hl with
      fdb := hFG _ hl.fdb, flb := hFG _ hl.flb
      ownF := fun g hg => ⟨hFG _ (hl.ownF g hg).1, (hl.ownF g hg).2⟩
      at_ := fun i hi => ⟨(hl.at_ i hi).1.mono fun k _ hk => ⟨hFG k hk.1, hk.2⟩, (hl.at_ i hi).2⟩
      oat := fun i hi => ⟨(hl.oat i hi).1, (hl.oat i hi).2.1, (hl.oat i hi).2.2.1.mono fun k _ hk => ⟨hFG k hk.1, hk.2⟩, (hl.oat i hi).2.2.2⟩ }⟩
theorem DriveAt.fdb {w : World} {F : Nat → Prop} {db : Nat} {d : DM} (h : DriveAt w F db d) : F db := by
  rcases h.is with ⟨_, _, _, h4, _⟩ | ⟨_, _, _, _, _, hl⟩
  · exact h4
  · exact hl.fdb
end Go.Proofs.Fl

namespace Go.Proofs.Fl
open Go.RowKit

def DM.cap (d : DM) : Nat := d.lasts.length
def DM.get (d : DM) (i : Nat) : Bytes := lastW d.loose i d.loose.length (d.lasts.getD i [])
def DM.put (d : DM) (i : Nat) (l : Bytes) : DM := { d with loose := d.loose ++ [(i, l)] }
def DM.keep (sel : Nat → Bool) (d : DM) : DM := { d with lasts := runW sel d.loose (0, []) d.loose.length d.lasts, loose := [] }
def DM.lose : DM := ⟨[], [], true⟩
def DM.new (n : Nat) : DM := ⟨List.replicate n [], [], false⟩

/-- What a call on a drive leaves. -/
structure DStep (w : World) (F : Nat → Prop) (db : Nat) (d' : DM) (w' : World) : Prop where
  mod : Mod F w w'
  at_ : DriveAt w' (Ext F w w') db d'

theorem getD_set {α : Type} (l : List α) (i j : Nat) (x z : α) : (l.set i x).getD j z = if i = j ∧ j < l.length then x else l.getD j z := by
  simp only [List.getD_eq_getElem?_getD, List.getElem?_set]
  by_cases h : i = j
  · subst h
    by_cases h2 : i < l.length
    · simp [h2]
    · simp [h2]
  · simp [h]
theorem getD_append_one {α : Type} (l : List α) (x z : α) (j : Nat) (h : j < l.length + 1) : (l ++ [x]).getD j z = if j = l.length then x else l.getD j z := by
  simp only [List.getD_eq_getElem?_getD]
  by_cases hj : j = l.length
  · subst hj; simp
  · rw [List.getElem?_append_left (by omega), if_neg hj]

theorem drive_cap {w : World} {F : Nat → Prop} {db : Nat} {d : DM} (h : DriveAt w F db d) : Calls Try.prog 67 #[.pointer (some ⟨db, 0, none⟩)] w fun e w' => e = .returned (.int .i64 d.cap) ∧ w = w' := by
  rcases h.is with ⟨h1, h2, h3, h4, h5⟩ | ⟨h1, lb, ov, lvs, ovs, hl⟩
  · refine (cap_any db 0 0 none true w (blk_cell h5 rfl) (blk_cell h5 rfl)).mono ?_
    rintro e w' ⟨rfl, rfl⟩
    simp [DM.cap, h2]
  · refine (cap_any db _ _ _ false w (blk_cell hl.blk rfl) (blk_cell hl.blk rfl)).mono ?_
    rintro e w' ⟨rfl, rfl⟩
    simp [DM.cap]
theorem drive_lost {w : World} {F : Nat → Prop} {db : Nat} {d : DM} (h : DriveAt w F db d) : Calls Try.prog 98 #[.pointer (some ⟨db, 0, none⟩)] w fun e w' => e = .returned (.bool d.lost) ∧ w = w' := by
  rcases h.is with ⟨h1, h2, h3, h4, h5⟩ | ⟨h1, lb, ov, lvs, ovs, hl⟩
  · rw [h1]; exact lost_any db true w (blk_cell h5 rfl)
  · rw [h1]; exact lost_any db false w (blk_cell hl.blk rfl)

theorem Live.oao {w : World} {F : Nat → Prop} {db lb : Nat} {ov : Value} {lvs : List Value} {ovs : List (Nat × Value)} {d : DM} (h : Live w F db lb ov lvs ovs d) :
    ∃ ao cap ob, ov = .slice ao d.loose.length cap ∧ (0 < d.loose.length → ao = some ⟨ob, 0, none⟩ ∧ ov.ownBlock = some ob) := by
  rcases h.own.2 with ⟨h1, h2⟩ | ⟨g, cap, cur, h1, _⟩
  · exact ⟨none, 0, 0, by rw [h1, h2], by omega⟩
  · exact ⟨_, cap, g, h1, fun _ => ⟨rfl, by rw [h1]; rfl⟩⟩
theorem Live.ocell {w : World} {F : Nat → Prop} {db lb ob : Nat} {ov : Value} {lvs : List Value} {ovs : List (Nat × Value)} {d : DM} (h : Live w F db lb ov lvs ovs d) (ho : ov.ownBlock = some ob) (j : Nat) (hj : j < d.loose.length) :
    w.cell? ⟨ob, j * 2, none⟩ = some (.int .i64 ((ovs.getD j (0, undef)).1 : Int)) ∧ w.cell? ⟨ob, j * 2 + 1, none⟩ = some (ovs.getD j (0, undef)).2 := by
  have ha : ∀ i, (⟨ob, 0, none⟩ : Addr).add i = ⟨ob, i, none⟩ := fun i => by unfold Addr.add; split <;> simp_all
  have hc := wcells_at ovs j (by rw [h.olen]; exact hj)
  have c1 := h.own.cells ho _ _ hc.1
  have c2 := h.own.cells ho _ _ hc.2
  rw [ha] at c1 c2
  exact ⟨c1, c2⟩

theorem drive_read {w : World} {F : Nat → Prop} {db : Nat} {d : DM} (h : DriveAt w F db d) (i : Nat) (hi : i < d.cap) (hk : d.loose.length ≤ 1000000000) :
    Calls Try.prog 75 #[.pointer (some ⟨db, 0, none⟩), .int .i64 i] w fun e w' => ∃ v', e = .returned (.tuple #[v', .int .i64 0]) ∧ Bs w' (Fresh w) v' (d.get i) ∧ Below w.heap.size w w' := by
  unfold DM.cap at hi
  rcases h.is with ⟨h1, h2, h3, h4, h5⟩ | ⟨h1, lb, ov, lvs, ovs, hl⟩
  · rw [h2] at hi; simp at hi
  · obtain ⟨ao, cap, ob, hov, hao⟩ := hl.oao
    refine read_walk db lb ob d.lasts.length cap d.lasts.length i ao (lvs.getD i undef) (d.lasts.getD i []) _ d.loose (fun j => (ovs.getD j (0, undef)).2) w (blk_cell hl.blk rfl) (by rw [← hov]; exact blk_cell hl.blk rfl) (blk_cell hl.blk rfl) hi
      (blk_cell hl.row (by simp [List.getD_eq_getElem?_getD, hl.len, hi])) (hl.at_ i hi).1 (by have := (hl.at_ i hi).2; omega) (fun j hj => ?_) hk (fun h0 => (hao h0).1)
    obtain ⟨x1, x2, x3, x4⟩ := hl.oat j hj
    obtain ⟨c1, c2⟩ := hl.ocell (hao (by omega)).2 j hj
    exact ⟨x3, by omega, by rw [← x1]; exact c1, c2⟩
theorem drive_lasts {w : World} {F : Nat → Prop} {db : Nat} {d : DM} (h : DriveAt w F db d) (i : Nat) (hi : i < d.cap) :
    Calls Try.prog 71 #[.pointer (some ⟨db, 0, none⟩), .int .i64 i] w fun e w' => ∃ v', e = .returned (.tuple #[v', .int .i64 0]) ∧ Bs w' (Fresh w) v' (d.lasts.getD i []) ∧ Below w.heap.size w w' := by
  unfold DM.cap at hi
  rcases h.is with ⟨h1, h2, h3, h4, h5⟩ | ⟨h1, lb, ov, lvs, ovs, hl⟩
  · rw [h2] at hi; simp at hi
  · exact lasts_ok db lb d.lasts.length d.lasts.length i (lvs.getD i undef) (d.lasts.getD i []) _ w (blk_cell hl.blk rfl) (blk_cell hl.blk rfl) hi
      (blk_cell hl.row (by simp [List.getD_eq_getElem?_getD, hl.len, hi])) (hl.at_ i hi).1 (by have := (hl.at_ i hi).2; omega)

theorem drive_put {w : World} {F S : Nat → Prop} {db : Nat} {d : DM} (h : DriveAt w F db d) (i : Nat) (hi : i < d.cap) (hk : d.loose.length ≤ 1000000000) {v : Value} {l : Bytes} (hB : Bs w S v l) (hl64 : l.length ≤ 64) :
    Calls Try.prog 100 #[.pointer (some ⟨db, 0, none⟩), .int .i64 i, v] w fun e w' => e = .returned (.int .i64 0) ∧ DStep w F db (d.put i l) w' := by
  unfold DM.cap at hi
  rcases h.is with ⟨h1, h2, h3, h4, h5⟩ | ⟨h1, lb, ov, lvs, ovs, hl⟩
  · rw [h2] at hi; simp at hi
  · refine (write_walk db _ _ i _ ov v d.loose.length (wcells ovs) l S w hl.blk hi hl.own hB hl64 hk (fun e => (hl.ownF db e).2.1 rfl)).mono ?_
    rintro e w' ⟨rfl, v1, ov', hv1, hown, hblk, hmod, hD⟩
    have hTF : ∀ b, (b = db ∨ ov.ownBlock = some b) → F b := fun b hb => by
      rcases hb with rfl | hb
      · exact hl.fdb
      · exact (hl.ownF b hb).1
    have hov' : ∀ g, ov'.ownBlock = some g → ov.ownBlock = some g ∨ (w.heap.size ≤ g ∧ g < w'.heap.size) := fun g hg => by
      rcases hblk with e | ⟨g', e, hg'⟩
      · exact .inl (e ▸ hg)
      · rw [e] at hg; injection hg with hg; subst hg
        exact .inr ⟨hg', (hown.lt _ e).2⟩
    refine ⟨rfl, ⟨hmod.mono fun k _ hk => hTF k hk, ⟨fun b hb => ?_, .inr ⟨h1, lb, ov', lvs, ovs ++ [(i, v1)], ?_⟩⟩⟩⟩
    · rcases hb with hb | hb
      · exact Nat.lt_of_lt_of_le (h.here b hb) hmod.size
      · exact hb.2
    · have him : ∀ k, k < w.heap.size → Im F db lb ov k → Im (Ext F w w') db lb ov' k := fun k hk hi' => by
        refine ⟨.inl hi'.1, hi'.2.1, hi'.2.2.1, fun e => ?_⟩
        rcases hov' k e with h | h
        · exact hi'.2.2.2 h
        · omega
      have hnT : ∀ k, Im F db lb ov k → ¬ (k = db ∨ ov.ownBlock = some k) := fun k hk h => by
        rcases h with h | h
        · exact hk.2.1 h
        · exact hk.2.2.2 h
      have hcar : ∀ {u : Value} {m : Bytes}, Bs w (Im F db lb ov) u m → Bs w' (Im (Ext F w w') db lb ov') u m := fun {u m} hu =>
        (hu.mono (T := fun k => Im F db lb ov k ∧ k < w.heap.size) fun k hk h => ⟨h, hk⟩).kept hmod (fun k _ hk => hnT k hk.1) |>.mono fun k _ hk => him k hk.2 hk.1
      have hdb := h.here db hl.fdb
      have hlb := h.here lb hl.flb
      have hnew : Bs w' (Im (Ext F w w') db lb ov') v1 l := hv1.mono fun k hk h => ⟨.inr ⟨h.1, hk⟩, by omega, by omega, h.2⟩
      exact {
        blk := hD
        row := blk_mod hmod hl.row (fun h => by
          rcases h with h | h
          · exact hl.ne h
          · exact (hl.ownF _ h).2.2 rfl)
        fdb := .inl hl.fdb
        flb := .inl hl.flb
        ne := hl.ne
        own := by
          have e : wcells (ovs ++ [(i, v1)]) = wcells ovs ++ [.int .i64 i, v1] := by simp [wcells]
          rw [e]; simpa [DM.put] using hown
        ownF := fun g hg => by
          rcases hov' g hg with h' | h'
          · exact ⟨.inl (hl.ownF g h').1, (hl.ownF g h').2⟩
          · exact ⟨.inr h', by omega, by omega⟩
        len := hl.len
        olen := by simp [DM.put, hl.olen]
        at_ := fun j hj => ⟨hcar (hl.at_ j hj).1, (hl.at_ j hj).2⟩
        oat := fun j hj => by
          have hj' : j < d.loose.length + 1 := by simpa [DM.put] using hj
          simp only [DM.put]
          rw [getD_append_one _ _ _ _ (by rw [hl.olen]; exact hj'), getD_append_one _ _ _ _ hj', hl.olen]
          by_cases e : j = d.loose.length
          · rw [if_pos e, if_pos e]; exact ⟨rfl, hi, hnew, hl64⟩
          · rw [if_neg e, if_neg e]
            obtain ⟨x1, x2, x3, x4⟩ := hl.oat j (by omega)
            exact ⟨x1, x2, hcar x3, x4⟩
        few := hl.few }
end Go.Proofs.Fl

namespace Go.Proofs.Fl
open Go.RowKit

theorem runW_rel {R : Value → Bytes → Prop} (sel : Nat → Bool) (ovs : List (Nat × Value)) (ws : List (Nat × Bytes)) (lvs : List Value) (ls : List Bytes) (hlen : lvs.length = ls.length)
    (h0 : ∀ i, i < ls.length → R (lvs.getD i undef) (ls.getD i [])) (h1 : ∀ i, i < ws.length → (ovs.getD i (0, undef)).1 = (ws.getD i (0, [])).1 ∧ R (ovs.getD i (0, undef)).2 (ws.getD i (0, [])).2) :
    ∀ k, k ≤ ws.length → ∀ i, i < ls.length → R ((runW sel ovs (0, undef) k lvs).getD i undef) ((runW sel ws (0, []) k ls).getD i []) := by
  intro k
  induction k with
  | zero => intro _ i hi; exact h0 i hi
  | succ k ih =>
    intro hk i hi
    have ih' := ih (by omega)
    simp only [runW]
    cases hs : sel k with
    | false => simpa using ih' i hi
    | true =>
      simp only [if_true]
      obtain ⟨e1, e2⟩ := h1 k (by omega)
      rw [getD_set, getD_set, e1]
      simp only [runW_length, hlen]
      by_cases hc : (ws.getD k (0, [])).1 = i ∧ i < ls.length
      · rw [if_pos hc, if_pos hc]; exact e2
      · rw [if_neg hc, if_neg hc]; exact ih' i hi

theorem keep_live {w w' : World} {F : Nat → Prop} {db lb : Nat} {ov : Value} {lvs : List Value} {ovs : List (Nat × Value)} {d : DM} (hh : ∀ b, F b → b < w.heap.size) (h : Live w F db lb ov lvs ovs d) (h1 : d.lost = false) (sel : Nat → Bool)
    (hm : Mod (fun b => b = db ∨ b = lb) w w') (hl : w'.heap[lb]? = some (.cells (runW sel ovs (0, undef) d.loose.length lvs).toArray tBytes (0, 0)))
    (hD : w'.heap[db]? = some (.cells #[.slice (some ⟨lb, 0, none⟩) d.lasts.length d.lasts.length, .slice none 0 0, .bool false] tDrive (0, 0))) : DStep w F db (d.keep sel) w' := by
  refine ⟨hm.mono fun k _ hk => ?_, ⟨fun b hb => ?_, .inr ⟨h1, lb, .slice none 0 0, runW sel ovs (0, undef) d.loose.length lvs, [], ?_⟩⟩⟩
  · rcases hk with rfl | rfl
    · exact h.fdb
    · exact h.flb
  · rcases hb with hb | hb
    · exact Nat.lt_of_lt_of_le (hh b hb) hm.size
    · exact hb.2
  · have hcar : ∀ {u : Value} {m : Bytes}, Bs w (Im F db lb ov) u m → Bs w' (Im (Ext F w w') db lb (.slice none 0 0)) u m := fun {u m} hu =>
      (hu.kept hm (fun k _ hk h' => by
        rcases h' with h' | h'
        · exact hk.2.1 h'
        · exact hk.2.2.1 h')).mono fun k _ hk => ⟨.inl hk.1, hk.2.1, hk.2.2.1, by simp [Value.ownBlock]⟩
    have hR := runW_rel (R := fun v l => Bs w' (Im (Ext F w w') db lb (.slice none 0 0)) v l ∧ l.length ≤ 64) sel ovs d.loose lvs d.lasts h.len (fun i hi => ⟨hcar (h.at_ i hi).1, (h.at_ i hi).2⟩)
      (fun i hi => ⟨(h.oat i hi).1, hcar (h.oat i hi).2.2.1, (h.oat i hi).2.2.2⟩) d.loose.length (Nat.le_refl _)
    exact {
      blk := by simpa [DM.keep] using hD
      row := hl
      fdb := .inl h.fdb
      flb := .inl h.flb
      ne := h.ne
      own := World.ownsRow_nil _ _ _ _
      ownF := fun g hg => by simp [Value.ownBlock] at hg
      len := by simp [DM.keep, h.len]
      olen := by simp [DM.keep]
      at_ := fun i hi => hR i (by simpa [DM.keep] using hi)
      oat := fun i hi => by simp [DM.keep] at hi
      few := by simpa [DM.keep] using h.few }

theorem Live.wrs {w : World} {F : Nat → Prop} {db lb ob : Nat} {ov : Value} {lvs : List Value} {ovs : List (Nat × Value)} {d : DM} (h : Live w F db lb ov lvs ovs d) (hao : 0 < d.loose.length → ov.ownBlock = some ob) :
    ∀ j, j < d.loose.length → (ovs.getD j (0, undef)).1 < d.lasts.length ∧ (∃ ao m k, (ovs.getD j (0, undef)).2 = .slice ao m k) ∧ w.cell? ⟨ob, j * 2, none⟩ = some (.int .i64 ((ovs.getD j (0, undef)).1 : Int)) ∧ w.cell? ⟨ob, j * 2 + 1, none⟩ = some (ovs.getD j (0, undef)).2 := by
  intro j hj
  obtain ⟨x1, x2, x3, x4⟩ := h.oat j hj
  obtain ⟨c1, c2⟩ := h.ocell (hao (by omega)) j hj
  obtain ⟨ao, c, e⟩ := x3.shape
  exact ⟨by rw [x1]; exact x2, ⟨ao, _, c, e⟩, c1, c2⟩
theorem Live.lbob {w : World} {F : Nat → Prop} {db lb ob : Nat} {ov : Value} {lvs : List Value} {ovs : List (Nat × Value)} {d : DM} (h : Live w F db lb ov lvs ovs d) (hao : 0 < d.loose.length → ov.ownBlock = some ob) : ∃ ob', lb ≠ ob' ∧ (0 < d.loose.length → ov.ownBlock = some ob') := by
  by_cases h0 : 0 < d.loose.length
  · exact ⟨ob, fun e => (h.ownF ob (hao h0)).2.2 e.symm, hao⟩
  · exact ⟨lb + 1, by omega, fun h' => absurd h' h0⟩

theorem drive_flush {w : World} {F : Nat → Prop} {db : Nat} {d : DM} (h : DriveAt w F db d) (hlive : d.lost = false) (hk : d.loose.length ≤ 1000000000) :
    Calls Try.prog 70 #[.pointer (some ⟨db, 0, none⟩)] w fun e w' => e = .returned (.int .i64 0) ∧ DStep w F db (d.keep fun _ => true) w' := by
  rcases h.is with ⟨h1, h2, h3, h4, h5⟩ | ⟨h1, lb, ov, lvs, ovs, hl⟩
  · rw [h1] at hlive; cases hlive
  · obtain ⟨ao, cap, ob, hov, hao⟩ := hl.oao
    obtain ⟨ob', hne', hao'⟩ := hl.lbob (fun h0 => (hao h0).2)
    refine (flush_walk db lb ob' d.lasts.length d.loose.length cap d.lasts.length ao lvs ovs w (by rw [← hov]; exact hl.blk) hl.row hl.len hl.olen (hl.wrs hao') hl.ne hne' hk (fun h0 => ?_)).mono ?_
    · have e1 := hao' h0
      have e2 := (hao h0)
      rw [e2.2] at e1; injection e1 with e1
      rw [e2.1, e1]
    · rintro e w' ⟨rfl, hm, hlr, hD⟩
      exact ⟨rfl, keep_live h.here hl h1 _ hm hlr hD⟩

set_option maxHeartbeats 400000 in
set_option maxRecDepth 100000 in
theorem crash_lost (db : Nat) (x : Nat) (w : World) (hD : w.heap[db]? = some (.cells #[.slice none 0 0, .slice none 0 0, .bool true] tDrive (0, 0))) :
    Calls Try.prog 73 #[.pointer (some ⟨db, 0, none⟩), .int .u64 x] w fun e w' => e = .returned (.tuple #[]) ∧ Mod (fun b => b = db) w w' ∧ w'.heap[db]? = some (.cells #[.slice none 0 0, .slice none 0 0, .bool true] tDrive (0, 0)) := by
  have h1 : w.cell? ⟨db, 1, none⟩ = some (.slice none 0 0) := blk_cell hD rfl
  have f1 := blk_free hD 1
  have HD := Lib.hid hD; clear hD
  go_enter Try.func73, Try.ntmps73
  go_wp2
  go_loop [13] (fun i => i = .int .i64 0) (fun _ => 0)
  case atStart => rfl
  case round =>
    subst hrel
    go_wp2
    go_end0
    exact ⟨rfl, (Mod.refl (fun b => b = db) w).setCell (p := ⟨db, 1, none⟩) (fun _ => rfl) _, blk_set HD.out 1 _⟩

theorem drive_crash {w : World} {F : Nat → Prop} {db : Nat} {d : DM} (h : DriveAt w F db d) (x : Nat) (hx : x ≤ 18446744073709551615) (hk : d.loose.length ≤ 1000000000) :
    Calls Try.prog 73 #[.pointer (some ⟨db, 0, none⟩), .int .u64 x] w fun e w' => e = .returned (.tuple #[]) ∧ DStep w F db (d.keep (crashSel x)) w' := by
  rcases h.is with ⟨h1, h2, h3, h4, h5⟩ | ⟨h1, lb, ov, lvs, ovs, hl⟩
  · refine (crash_lost db x w h5).mono ?_
    rintro e w' ⟨rfl, hm, hD'⟩
    refine ⟨rfl, ⟨hm.mono fun k _ hk => hk ▸ h4, ⟨fun b hb => ?_, .inl ⟨h1, by simp [DM.keep, h2, h3, runW], rfl, .inl h4, hD'⟩⟩⟩⟩
    rcases hb with hb | hb
    · exact Nat.lt_of_lt_of_le (h.here b hb) hm.size
    · exact hb.2
  · obtain ⟨ao, cap, ob, hov, hao⟩ := hl.oao
    obtain ⟨ob', hne', hao'⟩ := hl.lbob (fun h0 => (hao h0).2)
    refine (crash_walk db lb ob' d.lasts.length d.loose.length cap d.lasts.length ao x false hx lvs ovs w (by rw [← hov]; exact hl.blk) hl.row hl.len hl.olen (hl.wrs hao') hl.ne hne' hk (fun h0 => ?_)).mono ?_
    · have e1 := hao' h0
      have e2 := (hao h0)
      rw [e2.2] at e1; injection e1 with e1
      rw [e2.1, e1]
    · rintro e w' ⟨rfl, hm, hlr, hD⟩
      exact ⟨rfl, keep_live h.here hl h1 _ hm hlr hD⟩

theorem drive_lose {w : World} {F : Nat → Prop} {db : Nat} {d : DM} (h : DriveAt w F db d) :
    Calls Try.prog 39 #[.pointer (some ⟨db, 0, none⟩)] w fun e w' => e = .returned (.tuple #[]) ∧ DStep w F db DM.lose w' := by
  obtain ⟨lv, ov, x, hD⟩ : ∃ lv ov x, w.heap[db]? = some (.cells #[lv, ov, .bool x] tDrive (0, 0)) := by
    rcases h.is with ⟨h1, h2, h3, h4, h5⟩ | ⟨h1, lb, ov, lvs, ovs, hl⟩
    · exact ⟨_, _, _, h5⟩
    · exact ⟨_, _, _, hl.blk⟩
  refine (lose_walk db lv ov x w hD).mono ?_
  rintro e w' ⟨rfl, hm, hD'⟩
  refine ⟨rfl, ⟨hm.mono fun k _ hk => hk ▸ h.fdb, ⟨fun b hb => ?_, .inl ⟨rfl, rfl, rfl, .inl h.fdb, hD'⟩⟩⟩⟩
  rcases hb with hb | hb
  · exact Nat.lt_of_lt_of_le (h.here b hb) hm.size
  · exact hb.2

theorem drive_made {w w' : World} {n : Nat} {v : Value} (hn : n ≤ 128) (h : NewP w n v w') : ∃ db, v = .pointer (some ⟨db, 0, none⟩) ∧ w.heap.size ≤ db ∧ Below w.heap.size w w' ∧ DriveAt w' (Ext (fun _ => False) w w') db (DM.new n) := by
  obtain ⟨db, lb, rfl, hdb, hlb, hne, hb, hr, hD⟩ := h
  refine ⟨db, rfl, hdb, hb, ⟨fun b hb => ?_, .inr ⟨rfl, lb, .slice none 0 0, List.replicate n (.slice none 0 0), [], ?_⟩⟩⟩
  · rcases hb with hb | hb
    · exact hb.elim
    · exact hb.2
  · exact {
      blk := by simpa [DM.new] using hD
      row := hr
      fdb := .inr ⟨hdb, blk_lt hD⟩
      flb := .inr ⟨hlb, blk_lt hr⟩
      ne := hne
      own := World.ownsRow_nil _ _ _ _
      ownF := fun g hg => by simp [Value.ownBlock] at hg
      len := by simp [DM.new]
      olen := by simp [DM.new]
      at_ := fun i hi => by
        have hi' : i < n := by simpa [DM.new] using hi
        simp only [DM.new, List.getD_eq_getElem?_getD, List.getElem?_replicate, hi', if_true, Option.getD_some]
        exact ⟨Bs.nil _ _, by simp⟩
      oat := fun i hi => by simp [DM.new] at hi
      few := by simpa [DM.new] using hn }
theorem clampN_le (s : Int) : clampN s ≤ 128 := by unfold clampN; split <;> (try split) <;> omega
end Go.Proofs.Fl

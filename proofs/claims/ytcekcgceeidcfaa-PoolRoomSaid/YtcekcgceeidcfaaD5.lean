import Derived.Test.YtcekcgceeidcfaaD4
namespace Go.Proofs.Fl
open Go.RowKit

set_option maxHeartbeats 400000 in
set_option maxRecDepth 100000 in
theorem lose_walk (db : Nat) (lv ov : Value) (x : Bool) (w : World) (hD : w.heap[db]? = some (.cells #[lv, ov, .bool x] tDrive (0, 0))) :
    Calls Try.prog 39 #[.pointer (some ⟨db, 0, none⟩)] w fun e w' => e = .returned (.tuple #[]) ∧ Mod (fun b => b = db) w w' ∧ w'.heap[db]? = some (.cells #[.slice none 0 0, .slice none 0 0, .bool true] tDrive (0, 0)) := by
  have h0 : w.cell? ⟨db, 0, none⟩ = some lv := blk_cell hD rfl
  have h1 : w.cell? ⟨db, 1, none⟩ = some ov := blk_cell hD rfl
  have h2 : w.cell? ⟨db, 2, none⟩ = some (.bool x) := blk_cell hD rfl
  have f0 := blk_free hD 0
  have f1 := blk_free hD 1
  have f2 := blk_free hD 2
  have HD := Lib.hid hD; clear hD
  go_enter Try.func39, Try.ntmps39
  go_wp2
  go_end0
  refine ⟨rfl, ?_, ?_⟩
  · exact (((Mod.refl (fun b => b = db) w).setCell (p := ⟨db, 0, none⟩) (fun _ => rfl) _).setCell (p := ⟨db, 1, none⟩) (fun _ => rfl) _).setCell (p := ⟨db, 2, none⟩) (fun _ => rfl) _
  · exact blk_set (blk_set (blk_set HD.out 0 _) 1 _) 2 _
theorem lose_nil (w : World) : Calls Try.prog 39 #[.pointer none] w fun e w' => e = .returned (.tuple #[]) ∧ w = w' := by
  go_enter Try.func39, Try.ntmps39
  go_wp2
  go_end0
  exact ⟨rfl, rfl⟩

/-! ### A drive in memory. F: the blocks that are its own. -/
def Im (F : Nat → Prop) (db lb : Nat) (ov : Value) (b : Nat) : Prop := F b ∧ b ≠ db ∧ b ≠ lb ∧ ov.ownBlock ≠ some b

structure Live (w : World) (F : Nat → Prop) (db lb : Nat) (ov : Value) (lvs : List Value) (ovs : List (Nat × Value)) (d : DM) : Prop where
  blk : w.heap[db]? = some (.cells #[.slice (some ⟨lb, 0, none⟩) d.lasts.length d.lasts.length, ov, .bool false] tDrive (0, 0))
  row : w.heap[lb]? = some (.cells lvs.toArray tBytes (0, 0))
  fdb : F db
  flb : F lb
  ne : lb ≠ db
  own : w.ownsRow 0 tWrite 2 ov d.loose.length (wcells ovs)
  ownF : ∀ g, ov.ownBlock = some g → F g ∧ g ≠ db ∧ g ≠ lb
  len : lvs.length = d.lasts.length
  olen : ovs.length = d.loose.length
  at_ : ∀ i, i < d.lasts.length → Bs w (Im F db lb ov) (lvs.getD i undef) (d.lasts.getD i []) ∧ (d.lasts.getD i []).length ≤ 64
  oat : ∀ i, i < d.loose.length → (ovs.getD i (0, undef)).1 = (d.loose.getD i (0, [])).1 ∧ (d.loose.getD i (0, [])).1 < d.lasts.length ∧ Bs w (Im F db lb ov) (ovs.getD i (0, undef)).2 (d.loose.getD i (0, [])).2 ∧ (d.loose.getD i (0, [])).2.length ≤ 64
  few : d.lasts.length ≤ 128

structure DriveAt (w : World) (F : Nat → Prop) (db : Nat) (d : DM) : Prop where
  here : ∀ b, F b → b < w.heap.size
  is : (d.lost = true ∧ d.lasts = [] ∧ d.loose = [] ∧ F db ∧ w.heap[db]? = some (.cells #[.slice none 0 0, .slice none 0 0, .bool true] tDrive (0, 0))) ∨
    (d.lost = false ∧ ∃ lb ov lvs ovs, Live w F db lb ov lvs ovs d)

/-- F and what is new since w. -/
def Ext (F : Nat → Prop) (w w' : World) (b : Nat) : Prop := F b ∨ (w.heap.size ≤ b ∧ b < w'.heap.size)

theorem Live.kept {w w' : World} {F T : Nat → Prop} {db lb : Nat} {ov : Value} {lvs : List Value} {ovs : List (Nat × Value)} {d : DM} (h : Live w F db lb ov lvs ovs d) (hm : Mod T w w') (hT : ∀ b, F b → ¬ T b) : Live w' F db lb ov lvs ovs d where
  blk := blk_mod hm h.blk (hT _ h.fdb)
  row := blk_mod hm h.row (hT _ h.flb)
  fdb := h.fdb
  flb := h.flb
  ne := h.ne
  own := own_mod h.own hm fun g hg => hT g (h.ownF g hg).1
  ownF := h.ownF
  len := h.len
  olen := h.olen
  at_ := fun i hi => ⟨(h.at_ i hi).1.kept hm fun k _ hk => hT k hk.1, (h.at_ i hi).2⟩
  oat := fun i hi => ⟨(h.oat i hi).1, (h.oat i hi).2.1, (h.oat i hi).2.2.1.kept hm fun k _ hk => hT k hk.1, (h.oat i hi).2.2.2⟩
  few := h.few
theorem DriveAt.kept {w w' : World} {F T : Nat → Prop} {db : Nat} {d : DM} (h : DriveAt w F db d) (hm : Mod T w w') (hT : ∀ b, F b → ¬ T b) : DriveAt w' F db d := by
  refine ⟨fun b hb => Nat.lt_of_lt_of_le (h.here b hb) hm.size, ?_⟩
  rcases h.is with ⟨h1, h2, h3, h4, h5⟩ | ⟨h1, lb, ov, lvs, ovs, hl⟩
  · exact .inl ⟨h1, h2, h3, h4, blk_mod hm h5 (hT _ h4)⟩
  · exact .inr ⟨h1, lb, ov, lvs, ovs, hl.kept hm hT⟩
theorem DriveAt.below {w w' : World} {F : Nat → Prop} {db : Nat} {d : DM} (h : DriveAt w F db d) (hb : Below w.heap.size w w') : DriveAt w' F db d := h.kept (Mod.of_below (fun _ => False) hb) fun _ _ => id
theorem DriveAt.mono {w : World} {F G : Nat → Prop} {db : Nat} {d : DM} (h : DriveAt w F db d) (hFG : ∀ b, F b → G b) (hG : ∀ b, G b → b < w.heap.size) : DriveAt w G db d := by
  refine ⟨hG, ?_⟩
  rcases h.is with ⟨h1, h2, h3, h4, h5⟩ | ⟨h1, lb, ov, lvs, ovs, hl⟩
  · exact .inl ⟨h1, h2, h3, hFG _ h4, h5⟩
  · exact .inr ⟨h1, lb, ov, lvs, ovs, { hl with
      fdb := hFG _ hl.fdb, flb := hFG _ hl.flb
      ownF := fun g hg => ⟨hFG _ (hl.ownF g hg).1, (hl.ownF g hg).2⟩
      at_ := fun i hi => ⟨(hl.at_ i hi).1.mono fun k _ hk => ⟨hFG k hk.1, hk.2⟩, (hl.at_ i hi).2⟩
      oat := fun i hi => ⟨(hl.oat i hi).1, (hl.oat i hi).2.1, (hl.oat i hi).2.2.1.mono fun k _ hk => ⟨hFG k hk.1, hk.2⟩, (hl.oat i hi).2.2.2⟩ }⟩
theorem DriveAt.fdb {w : World} {F : Nat → Prop} {db : Nat} {d : DM} (h : DriveAt w F db d) : F db := by
  rcases h.is with ⟨_, _, _, h4, _⟩ | ⟨_, _, _, _, _, hl⟩
  · exact h4
  · exact hl.fdb
end Go.Proofs.Fl

import Derived.Test.YtcekcgceeidcfaaP2
namespace Go.Proofs.Fl
open Go.RowKit

theorem E91 : Elem Try.prog 91 tPtrDrive (.pointer none) 1 8 := ⟨Try.underlying91, by kernel_rfl, by decide, by decide⟩

def AddP (w : World) (pb : Nat) (lv : Value) (f : Int) (d : Bool) (n k : Nat) (xs : List Value) (w' : World) : Prop :=
  ∃ (db : Nat) (lv' : Value) (w1 : World), Below w.heap.size w w1 ∧ DriveAt w1 (Ext (fun _ => False) w w1) db (DM.new n) ∧ w'.ownsRow 0 tPtrDrive 1 lv' (k + 1) (xs ++ [.pointer (some ⟨db, 0, none⟩)]) ∧ Blk w1 lv lv' ∧
    Mod (fun b => b = pb ∨ lv.ownBlock = some b) w1 w' ∧ w'.heap[pb]? = some (.cells #[lv', .int .i64 f, .bool d] tPool (0, 0))

theorem add_nil (s : Int) (w : World) : Calls Try.prog 19 #[.pointer none, .int .i64 s] w fun e w' => e = .returned (.tuple #[.int .i64 0, .int .i64 1]) ∧ w = w' := by
  go_enter Try.func19, Try.ntmps19
  go_wp2
  go_ret2
  exact ⟨rfl, rfl⟩

theorem own_len {w : World} {base e size n : Nat} {oa : Option Addr} {m c : Nat} {xs : List Value} (h : w.ownsRow base e size (.slice oa m c) n xs) : m = n := by
  rcases h.2 with ⟨h1, h2⟩ | ⟨g, cap, cur, h1, _⟩
  · injection h1 with _ e _; rw [e, h2]
  · injection h1
set_option maxHeartbeats 1000000 in
set_option maxRecDepth 100000 in
theorem add_full (pb : Nat) (ao : Option Addr) (k c : Nat) (f : Value) (d : Value) (s : Int) (w : World) (hb : w.heap[pb]? = some (.cells #[.slice ao k c, f, d] tPool (0, 0))) (hk : 12 ≤ k) :
    Calls Try.prog 19 #[.pointer (some ⟨pb, 0, none⟩), .int .i64 s] w fun e w' => e = .returned (.tuple #[.int .i64 0, .int .i64 3]) ∧ w = w' := by
  have h0 : w.cell? ⟨pb, 0, none⟩ = some (.slice ao k c) := blk_cell hb rfl
  have hk' : (12 : Int) ≤ (k : Int) := by omega
  have HB := Lib.hid hb; clear hb
  go_enter Try.func19, Try.ntmps19
  go_wp2
  go_ret2
  exact ⟨rfl, rfl⟩

set_option maxHeartbeats 1000000 in
set_option maxRecDepth 100000 in
theorem add_walk (pb : Nat) (lv : Value) (k : Nat) (xs : List Value) (f : Int) (d : Bool) (s : Int) (w : World) (hb : w.heap[pb]? = some (.cells #[lv, .int .i64 f, .bool d] tPool (0, 0))) (hown : w.ownsRow 0 tPtrDrive 1 lv k xs) (hk : k < 12) (hne : lv.ownBlock ≠ some pb) :
    Calls Try.prog 19 #[.pointer (some ⟨pb, 0, none⟩), .int .i64 s] w fun e w' => e = .returned (.tuple #[.int .i64 k, .int .i64 0]) ∧ AddP w pb lv f d (clampN s) k xs w' := by
  have h0 : w.cell? ⟨pb, 0, none⟩ = some lv := blk_cell hb rfl
  have hf := blk_free hb 0
  have hpb := blk_lt hb
  have hk' : ¬ (12 : Int) ≤ (k : Int) := by omega
  have HB := Lib.hid hb; clear hb
  obtain ⟨oa, on_, oc, rfl⟩ := own_shape hown
  have hon : on_ = k := by
    rcases hown.2 with ⟨h1, h2⟩ | ⟨g, cap, cur, h1, _⟩
    · injection h1 with _ e _; rw [e, h2]
    · injection h1
  subst hon
  have HN := Lib.hid hne; clear hne
  have HO := Lib.hid hown
  go_enter Try.func19, Try.ntmps19
  go_wp2_with (fail)
  have hod := own_drew hown
  clear hown
  go_region_law (first | (refine step_app_new rfl _ _ _ rfl E91 0 _ 1 (by assumption) rfl rfl rfl (by intro u hu; simp at hu; subst hu; rfl) (by omega) (by decide) (by omega) ?_; intro v2 w2 hown2 hg2 _; have hD1 := (hbl.block pb hpb).trans HB.out; have hD2 := (hg2.by_.block pb (blk_lt hD1) (Ne.symm HN.out)).trans hD1; have x1 : w2.cell? ⟨pb, 0, none⟩ = some _ := blk_cell hD2 rfl; have x2 := blk_free hD2 0; obtain ⟨oa2, on2, oc2, rfl⟩ := own_shape hown2) | (go_simp; go_at_call 60; refine (drive_new s _).mono ?_; rintro e w1 ⟨v1, rfl, hnew⟩; obtain ⟨db, rfl, hdb, hbl, hdr⟩ := drive_made (clampN_le s) hnew; clear hnew; have hod1 := own_below hod hbl; clear hod; have h1' := (hbl.cell (p := ⟨pb, 0, none⟩) (by simpa using hpb)).trans h0; have hdb1 := World.block_lt_of_cell? w1 _ h1'; simp only at hdb1))
  all_goals
    have hon2 := own_len hown2
    subst hon2
    have hb' : Below w.heap.size w w1 := ⟨hbl.os, hbl.tape, hbl.output, hbl.size, hbl.block⟩
    have hov : ∀ g, (Value.slice oa on_ oc).ownBlock = some g → g < w.heap.size := fun g hg => (HO.out.lt g hg).2
    have hmA : Mod (fun b => b = pb ∨ (Value.slice oa on_ oc).ownBlock = some b) w1 (w2.setCell ⟨pb, 0, none⟩ (.slice oa2 (on_ + 1) oc2)) :=
      ((Mod.refl _ w1).grown hg2.by_ (fun k hk _ => .inr hk)).setCell (p := ⟨pb, 0, none⟩) (fun _ => .inl rfl) _
    have hne2 : ∀ g, (Value.slice oa2 (on_ + 1) oc2).ownBlock = some g → ¬ g = pb := by
      intro g hg e
      subst e
      rcases hg2.blk with h | ⟨g', h, h'⟩
      · exact HN.out (h ▸ hg)
      · rw [h] at hg; injection hg with hg; have := hb'.size; omega
    have hown3 := own_mod hown2 ((Mod.refl (fun b => b = pb) w2).setCell (p := ⟨pb, 0, none⟩) (fun _ => rfl) (.slice oa2 (on_ + 1) oc2)) hne2
    have hD3 := blk_set hD2 0 (.slice oa2 (on_ + 1) oc2)
    have R := Lib.hid (And.intro hb' (And.intro hdr (And.intro hown3 (And.intro hg2.blk (And.intro hmA hD3)))))
    clear hown3 hmA hD3 hne2 hov hb' hdr hown2 hg2 hbl hod1 h1' hD1 hD2
    go_wp2
    go_ret2
    exact ⟨rfl, _, _, _, R.out.1, R.out.2.1, R.out.2.2.1, R.out.2.2.2.1, R.out.2.2.2.2.1, R.out.2.2.2.2.2⟩

def PM.add (m : PM) (s : Int) : PM := { m with list := m.list ++ [DM.new (clampN s)] }
theorem pool_add {w : World} {F : Nat → Prop} {pb : Nat} {m : PM} (h : PoolAt w F pb m) (s : Int) (hk : m.list.length < 12) :
    Calls Try.prog 19 #[.pointer (some ⟨pb, 0, none⟩), .int .i64 s] w fun e w' => e = .returned (.tuple #[.int .i64 m.list.length, .int .i64 0]) ∧ PStep w F pb (m.add s) w' := by
  obtain ⟨lv, dbs, G, h⟩ := h
  refine (add_walk pb lv m.list.length (ptrs dbs) m.fuse m.down s w h.blk h.own hk (fun e => (h.ownF pb e).2.1 rfl)).mono ?_
  rintro e w' ⟨rfl, db, lv', w1, hb, hdr, hown, hblk, hmod, hD⟩
  have hpb := h.here pb h.fpb
  have hTF : ∀ b, (b = pb ∨ lv.ownBlock = some b) → F b := fun b hb => by
    rcases hb with rfl | hb
    · exact h.fpb
    · exact (h.ownF b hb).1
  have hmW : Mod F w w' := (Mod.of_below F hb).then hmod fun i _ hi => hTF i hi
  have hsz := hb.size
  have hsz2 := hmod.size
  have h1 := h.kept (Mod.of_below (fun _ => False) hb) fun _ _ => id
  have hlv' : ∀ g, lv'.ownBlock = some g → lv.ownBlock = some g ∨ (w1.heap.size ≤ g ∧ g < w'.heap.size) := fun g hg => by
    rcases hblk with e | ⟨g', e, hg'⟩
    · exact .inl (e ▸ hg)
    · rw [e] at hg; injection hg with hg; subst hg
      exact .inr ⟨hg', (hown.lt _ e).2⟩
  refine ⟨rfl, hmW, lv', dbs ++ [db], fun i b => if i = m.list.length then (w.heap.size ≤ b ∧ b < w1.heap.size) else G i b, ?_⟩
  have hnew : DriveAt w' (fun b => w.heap.size ≤ b ∧ b < w1.heap.size) db (DM.new (clampN s)) := by
    have := hdr.kept hmod (fun b hb' hT => by
      rcases hb' with hb' | hb'
      · exact hb'.elim
      · rcases hT with rfl | hT
        · omega
        · have := h.here b (h.ownF b hT).1; omega)
    exact this.mono (fun b hb => by rcases hb with hb | hb; exact hb.elim; exact hb) (fun b hb => by omega)
  exact {
    here := Ext.here h.here hmW.size
    blk := hD
    fpb := .inl h.fpb
    own := by simpa [PM.add, ptrs] using hown
    ownF := fun g hg => by
      rcases hlv' g hg with h' | h'
      · have hx := h.ownF g h'
        refine ⟨.inl hx.1, hx.2.1, fun i => ?_⟩
        have := h.here g hx.1
        split
        · omega
        · exact hx.2.2 i
      · refine ⟨.inr (by omega), by omega, fun i => ?_⟩
        split
        · omega
        · intro hGi; have := h.here g (h.sub i g hGi).1; omega
    len := by simp [PM.add, h.len]
    at_ := fun i hi => by
      have hi' : i < m.list.length + 1 := by simpa [PM.add] using hi
      simp only [PM.add]
      rw [getD_append_one _ _ _ _ (by rw [h.len]; exact hi'), getD_append_one _ _ _ _ hi', h.len]
      by_cases e : i = m.list.length
      · simp only [if_pos e]; exact hnew
      · simp only [if_neg e]
        exact (h1.at_ i (by omega)).kept hmod fun b hb hT => by
          rcases hT with rfl | hT
          · exact (h.sub i _ hb).2 rfl
          · exact (h.ownF b hT).2.2 i hb
    sub := fun i b hGi => by
      split at hGi
      · exact ⟨.inr (by omega), by omega⟩
      · exact ⟨.inl (h.sub i b hGi).1, (h.sub i b hGi).2⟩
    apart := fun i j b hi hj => by
      split at hi
      · split at hj
        · omega
        · have := h.here b (h.sub j b hj).1; omega
      · split at hj
        · have := h.here b (h.sub i b hi).1; omega
        · exact h.apart i j b hi hj
    few := by simp [PM.add]; omega
    fuse1 := h.fuse1
    fuse2 := h.fuse2 }
theorem pool_add_full {w : World} {F : Nat → Prop} {pb : Nat} {m : PM} (h : PoolAt w F pb m) (s : Int) (hk : 12 ≤ m.list.length) :
    Calls Try.prog 19 #[.pointer (some ⟨pb, 0, none⟩), .int .i64 s] w fun e w' => e = .returned (.tuple #[.int .i64 0, .int .i64 3]) ∧ w = w' := by
  obtain ⟨lv, dbs, G, h⟩ := h
  obtain ⟨ao, ln, cap, rfl⟩ := own_shape h.own
  exact add_full pb ao ln cap _ _ s w h.blk (by rw [own_len h.own]; exact hk)
end Go.Proofs.Fl

import Derived.Test.YtcekcgceeidcfaaP0
namespace Go.Proofs.Fl
open Go.RowKit

abbrev tPool : TypeId := 93
abbrev tPtrDrive : TypeId := 45

structure PM where
  list : List DM
  fuse : Int
  down : Bool

def dNone : DM := ⟨[], [], false⟩
def ptrs (dbs : List Nat) : List Value := dbs.map fun b => .pointer (some ⟨b, 0, none⟩)

/-- A pool in memory. G i: the blocks of drive i. -/
structure PoolIn (w : World) (F : Nat → Prop) (pb : Nat) (lv : Value) (dbs : List Nat) (G : Nat → Nat → Prop) (m : PM) : Prop where
  here : ∀ b, F b → b < w.heap.size
  blk : w.heap[pb]? = some (.cells #[lv, .int .i64 m.fuse, .bool m.down] tPool (0, 0))
  fpb : F pb
  own : w.ownsRow 0 tPtrDrive 1 lv m.list.length (ptrs dbs)
  ownF : ∀ g, lv.ownBlock = some g → F g ∧ g ≠ pb ∧ ∀ i, ¬ G i g
  len : dbs.length = m.list.length
  at_ : ∀ i, i < m.list.length → DriveAt w (G i) (dbs.getD i 0) (m.list.getD i dNone)
  sub : ∀ i b, G i b → F b ∧ b ≠ pb
  apart : ∀ i j b, G i b → G j b → i = j
  few : m.list.length ≤ 12
  fuse1 : -1 ≤ m.fuse
  fuse2 : m.fuse ≤ 9223372036854775807

def PoolAt (w : World) (F : Nat → Prop) (pb : Nat) (m : PM) : Prop := ∃ lv dbs G, PoolIn w F pb lv dbs G m

theorem PoolIn.kept {w w' : World} {F T : Nat → Prop} {pb : Nat} {lv : Value} {dbs : List Nat} {G : Nat → Nat → Prop} {m : PM} (h : PoolIn w F pb lv dbs G m) (hm : Mod T w w') (hT : ∀ b, F b → ¬ T b) : PoolIn w' F pb lv dbs G m :=
  { h with
    here := fun b hb => Nat.lt_of_lt_of_le (h.here b hb) hm.size
    blk := blk_mod hm h.blk (hT _ h.fpb)
    own := own_mod h.own hm fun g hg => hT g (h.ownF g hg).1
    at_ := fun i hi => (h.at_ i hi).kept hm fun b hb => hT b (h.sub i b hb).1 }
theorem PoolAt.kept {w w' : World} {F T : Nat → Prop} {pb : Nat} {m : PM} (h : PoolAt w F pb m) (hm : Mod T w w') (hT : ∀ b, F b → ¬ T b) : PoolAt w' F pb m := by
  obtain ⟨lv, dbs, G, h⟩ := h; exact ⟨lv, dbs, G, h.kept hm hT⟩
theorem PoolAt.below {w w' : World} {F : Nat → Prop} {pb : Nat} {m : PM} (h : PoolAt w F pb m) (hb : Below w.heap.size w w') : PoolAt w' F pb m := h.kept (Mod.of_below (fun _ => False) hb) fun _ _ => id
theorem PoolAt.here {w : World} {F : Nat → Prop} {pb : Nat} {m : PM} (h : PoolAt w F pb m) : ∀ b, F b → b < w.heap.size := by
  obtain ⟨lv, dbs, G, h⟩ := h; exact h.here

/-- What a call on a pool leaves. -/
structure PStep (w : World) (F : Nat → Prop) (pb : Nat) (m' : PM) (w' : World) : Prop where
  mod : Mod F w w'
  at_ : PoolAt w' (Ext F w w') pb m'

theorem Ext.here {w w' : World} {F : Nat → Prop} (h : ∀ b, F b → b < w.heap.size) (hm : w.heap.size ≤ w'.heap.size) : ∀ b, Ext F w w' b → b < w'.heap.size := by
  intro b hb
  rcases hb with hb | hb
  · exact Nat.lt_of_lt_of_le (h b hb) hm
  · exact hb.2

/-- The pool's pointer, and what it leads to: a pool, or nil. -/
def ptrOf (dbs : List Nat) (n : Int) : Value := if 0 ≤ n ∧ n < dbs.length then .pointer (some ⟨dbs.getD n.toNat 0, 0, none⟩) else .pointer none

theorem PoolIn.cell {w : World} {F : Nat → Prop} {pb : Nat} {lv : Value} {dbs : List Nat} {G : Nat → Nat → Prop} {m : PM} (h : PoolIn w F pb lv dbs G m) (i : Nat) (hi : i < m.list.length) :
    ∃ ao cap ob, lv = .slice ao m.list.length cap ∧ ao = some ⟨ob, 0, none⟩ ∧ w.cell? ⟨ob, i, none⟩ = some (.pointer (some ⟨dbs.getD i 0, 0, none⟩)) := by
  rcases h.own.2 with ⟨h1, h2⟩ | ⟨g, cap, cur, h1, _⟩
  · omega
  · have hc := h.own.cells (g := g) (by rw [h1]; rfl) i (.pointer (some ⟨dbs.getD i 0, 0, none⟩)) (by
      have : i < dbs.length := by rw [h.len]; exact hi
      simp [ptrs, List.getD_eq_getElem?_getD, this])
    have ha : (⟨g, 0, none⟩ : Addr).add i = ⟨g, i, none⟩ := by unfold Addr.add; split <;> simp_all
    rw [ha] at hc
    exact ⟨_, cap, g, h1, rfl, hc⟩

set_option maxHeartbeats 400000 in
set_option maxRecDepth 100000 in
theorem drive_of_nil (n : Int) (w : World) : Calls Try.prog 30 #[.pointer none, .int .i64 n] w fun e w' => e = .returned (.pointer none) ∧ w = w' := by
  go_enter Try.func30, Try.ntmps30
  go_wp2
  go_ret
  exact ⟨rfl, rfl⟩

set_option maxHeartbeats 800000 in
set_option maxRecDepth 100000 in
theorem drive_of {w : World} {F : Nat → Prop} {pb : Nat} {lv : Value} {dbs : List Nat} {G : Nat → Nat → Prop} {m : PM} (h : PoolIn w F pb lv dbs G m) (n : Int) :
    Calls Try.prog 30 #[.pointer (some ⟨pb, 0, none⟩), .int .i64 n] w fun e w' => e = .returned (ptrOf dbs n) ∧ w = w' := by
  unfold ptrOf
  rw [h.len]
  obtain ⟨ao, ln, cap, rfl⟩ := own_shape h.own
  have hln : ln = m.list.length := by
    rcases h.own.2 with ⟨h1, h2⟩ | ⟨g, cap, cur, h1, _⟩
    · injection h1 with _ e _; rw [e, h2]
    · injection h1
  have h0 : w.cell? ⟨pb, 0, none⟩ = some (.slice ao ln cap) := blk_cell h.blk rfl
  by_cases hn : n < 0
  · rw [if_neg (by omega)]
    go_enter Try.func30, Try.ntmps30
    go_wp2
    go_ret
    exact ⟨rfl, rfl⟩
  · obtain ⟨k, rfl⟩ : ∃ k : Nat, n = k := ⟨n.toNat, by omega⟩
    by_cases hk : k < m.list.length
    · rw [if_pos (by omega)]
      obtain ⟨ao', cap', ob, e1, rfl, e3⟩ := h.cell k hk
      injection e1 with e1 e2 e4
      subst e1; subst hln; subst e4
      have e : ((k : Int)).toNat = k := rfl
      rw [e]; clear e
      have hk' : ¬ (m.list.length : Int) ≤ (k : Int) := by omega
      have hn' : ¬ (k : Int) < 0 := by omega
      have H := Lib.hid h; clear h
      go_enter Try.func30, Try.ntmps30
      go_wp2
      go_ret
      exact ⟨rfl, rfl⟩
    · rw [if_neg (by omega)]
      subst hln
      have hk' : (m.list.length : Int) ≤ (k : Int) := by omega
      have hn' : ¬ (k : Int) < 0 := by omega
      have H := Lib.hid h; clear h
      go_enter Try.func30, Try.ntmps30
      go_wp2
      go_ret
      exact ⟨rfl, rfl⟩

set_option maxHeartbeats 400000 in
set_option maxRecDepth 100000 in
theorem pool_new (w : World) : Calls Try.prog 18 #[] w fun e w' => ∃ pb, e = .returned (.pointer (some ⟨pb, 0, none⟩)) ∧ w.heap.size ≤ pb ∧ Below w.heap.size w w' ∧ PoolAt w' (Ext (fun _ => False) w w') pb ⟨[], -1, false⟩ := by
  go_enter Try.func18, Try.ntmps18
  go_wp2
  go_ret
  refine ⟨w.heap.size, rfl, Nat.le_refl _, (Below.refl _ _).alloc (Nat.le_refl _) _, .slice none 0 0, [], fun _ _ => False, ?_⟩
  exact {
    here := Ext.here (fun _ => False.elim) (by simp)
    blk := heap_alloc_new w _
    fpb := .inr ⟨Nat.le_refl _, by simp⟩
    own := World.ownsRow_nil _ _ _ _
    ownF := fun g hg => by simp [Value.ownBlock] at hg
    len := rfl
    at_ := fun i hi => by simp at hi
    sub := fun _ _ h => h.elim
    apart := fun _ _ _ h => h.elim
    few := by simp
    fuse1 := by simp
    fuse2 := by simp }
theorem pool_len_nil (w : World) : Calls Try.prog 31 #[.pointer none] w fun e w' => e = .returned (.int .i64 0) ∧ w = w' := by
  go_enter Try.func31, Try.ntmps31
  go_wp2
  go_ret
  exact ⟨rfl, rfl⟩
theorem pool_len {w : World} {F : Nat → Prop} {pb : Nat} {m : PM} (h : PoolAt w F pb m) : Calls Try.prog 31 #[.pointer (some ⟨pb, 0, none⟩)] w fun e w' => e = .returned (.int .i64 m.list.length) ∧ w = w' := by
  obtain ⟨lv, dbs, G, h⟩ := h
  obtain ⟨ao, ln, cap, rfl⟩ := own_shape h.own
  have hln : ln = m.list.length := by
    rcases h.own.2 with ⟨h1, h2⟩ | ⟨g, cap, cur, h1, _⟩
    · injection h1 with _ e _; rw [e, h2]
    · injection h1
  have h0 : w.cell? ⟨pb, 0, none⟩ = some (.slice ao ln cap) := blk_cell h.blk rfl
  subst hln
  have H := Lib.hid h; clear h
  go_enter Try.func31, Try.ntmps31
  go_wp2
  go_ret
  exact ⟨rfl, rfl⟩
end Go.Proofs.Fl

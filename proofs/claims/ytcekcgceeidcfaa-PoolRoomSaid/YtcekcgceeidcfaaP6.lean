import Derived.Test.YtcekcgceeidcfaaP5
namespace Go.Proofs.Fl
open Go.RowKit

theorem lastW_le (ws : List (Nat × Bytes)) (i : Nat) (b : Bytes) (hb : b.length ≤ 64) (hw : ∀ j, j < ws.length → (ws.getD j (0, [])).2.length ≤ 64) : ∀ k, k ≤ ws.length → (lastW ws i k b).length ≤ 64 := by
  intro k
  induction k with
  | zero => intro _; exact hb
  | succ k ih =>
    intro hk
    simp only [lastW]
    split
    · exact hw k (by omega)
    · exact ih (by omega)
theorem DriveAt.get_le {w : World} {F : Nat → Prop} {db : Nat} {d : DM} (h : DriveAt w F db d) : ∀ i, i < d.cap → (d.get i).length ≤ 64 := by
  intro i hi
  unfold DM.cap at hi
  rcases h.is with ⟨h1, h2, h3, h4, h5⟩ | ⟨h1, lb, ov, lvs, ovs, hl⟩
  · rw [h2] at hi; simp at hi
  · exact lastW_le _ _ _ (hl.at_ i hi).2 (fun j hj => (hl.oat j hj).2.2.2) _ (Nat.le_refl _)
theorem DriveAt.cap_le {w : World} {F : Nat → Prop} {db : Nat} {d : DM} (h : DriveAt w F db d) : d.cap ≤ 128 := by
  unfold DM.cap
  rcases h.is with ⟨h1, h2, h3, h4, h5⟩ | ⟨h1, lb, ov, lvs, ovs, hl⟩
  · rw [h2]; simp
  · exact hl.few
theorem DriveAt.lost_cap {w : World} {F : Nat → Prop} {db : Nat} {d : DM} (h : DriveAt w F db d) (h0 : d.lost = true) : d.cap = 0 := by
  unfold DM.cap
  rcases h.is with ⟨h1, h2, h3, h4, h5⟩ | ⟨h1, lb, ov, lvs, ovs, hl⟩
  · rw [h2]; rfl
  · rw [h1] at h0; cases h0

/-- Slots that answer no drive: each visits none. -/
theorem each_nil (pv fv : Value) (n : Int) (w : World) (h30 : Calls Try.prog 30 #[pv, .int .i64 n] w fun e w' => e = .returned (.pointer none) ∧ w = w') :
    Calls Try.prog 63 #[pv, .int .i64 n, fv] w fun e w' => e = .returned (.int .i64 (-1)) ∧ w = w' := by
  go_enter Try.func63, Try.ntmps63
  go_wp2_with (first | (go_at_call 30; refine h30.mono ?_; rintro e w1 ⟨rfl, rfl⟩) | (go_at_call 67; refine (cap_nil _).mono ?_; rintro e w1 ⟨rfl, rfl⟩))
  go_loop [16] (fun i => i = .int .i64 0) (fun _ => 0)
  case atStart => rfl
  case round =>
    subst hrel
    go_wp2
    go_ret
    exact ⟨rfl, rfl⟩

theorem PoolIn.sel {w : World} {F : Nat → Prop} {pb : Nat} {lv : Value} {dbs : List Nat} {G : Nat → Nat → Prop} {m : PM} (h : PoolIn w F pb lv dbs G m) (i : Nat) (hi : i < m.list.length) :
    Calls Try.prog 30 #[.pointer (some ⟨pb, 0, none⟩), .int .i64 i] w fun e w' => e = .returned (.pointer (some ⟨dbs.getD i 0, 0, none⟩)) ∧ w = w' := by
  have := drive_of h (i : Int)
  unfold ptrOf at this
  rw [if_pos (by rw [h.len]; omega)] at this
  exact this
theorem PoolIn.nosel {w : World} {F : Nat → Prop} {pb : Nat} {lv : Value} {dbs : List Nat} {G : Nat → Nat → Prop} {m : PM} (h : PoolIn w F pb lv dbs G m) (n : Int) (hn : ¬ (0 ≤ n ∧ n < m.list.length)) :
    Calls Try.prog 30 #[.pointer (some ⟨pb, 0, none⟩), .int .i64 n] w fun e w' => e = .returned (.pointer none) ∧ w = w' := by
  have := drive_of h n
  unfold ptrOf at this
  rw [if_neg (by rw [h.len]; exact hn)] at this
  exact this

/-- A drive of a pool has turned. -/
theorem PoolIn.drive2 {w w' : World} {F : Nat → Prop} {pb : Nat} {lv : Value} {dbs : List Nat} {G : Nat → Nat → Prop} {m : PM} (h : PoolIn w F pb lv dbs G m) (i : Nat) (hi : i < m.list.length) (d' : DM)
    (hs : DStep w (G i) (dbs.getD i 0) d' w') : Mod F w w' ∧ PoolIn w' (Ext F w w') pb lv dbs (fun j => if j = i then Ext (G i) w w' else G j) { m with list := m.list.set i d' } := by
  have hmF : Mod F w w' := hs.mod.mono fun k _ hk => (h.sub i k hk).1
  have hGs : ∀ j b, G j b → b < w.heap.size := fun j b hb => h.here b (h.sub j b hb).1
  have hfar : ∀ j b, (if j = i then Ext (G i) w w' else G j) b → G j b ∨ (j = i ∧ w.heap.size ≤ b ∧ b < w'.heap.size) := fun j b hb => by
    split at hb
    · rename_i e; subst e
      rcases hb with hb | hb
      · exact .inl hb
      · exact .inr ⟨rfl, hb⟩
    · exact .inl hb
  refine ⟨hmF, ?_⟩
  exact {
    here := Ext.here h.here hmF.size
    blk := blk_mod hs.mod h.blk fun hb => (h.sub i _ hb).2 rfl
    fpb := .inl h.fpb
    own := by
      have := own_mod h.own hs.mod fun g hg => (h.ownF g hg).2.2 i
      simpa using this
    ownF := fun g hg => by
      have hx := h.ownF g hg
      have hlt := h.here g hx.1
      refine ⟨.inl hx.1, hx.2.1, fun j hj => ?_⟩
      rcases hfar j g hj with hj | hj
      · exact hx.2.2 j hj
      · omega
    len := by simp [h.len]
    at_ := fun j hj => by
      have hj' : j < m.list.length := by simpa using hj
      show DriveAt w' (if j = i then Ext (G i) w w' else G j) (dbs.getD j 0) ((m.list.set i d').getD j dNone)
      rw [getD_set]
      by_cases e : j = i
      · subst e
        rw [if_pos rfl, if_pos ⟨rfl, hj'⟩]
        exact hs.at_
      · rw [if_neg e, if_neg (by omega)]
        exact (h.at_ j hj').kept hs.mod fun b hb hb2 => e (h.apart j i b hb hb2)
    sub := fun j b hb => by
      rcases hfar j b hb with hb | hb
      · exact ⟨.inl (h.sub j b hb).1, (h.sub j b hb).2⟩
      · have := h.here pb h.fpb
        exact ⟨.inr hb.2, by omega⟩
    apart := fun j k b hj hk => by
      rcases hfar j b hj with hj | hj
      · rcases hfar k b hk with hk | hk
        · exact h.apart j k b hj hk
        · have := hGs j b hj; omega
      · rcases hfar k b hk with hk | hk
        · have := hGs k b hk; omega
        · omega
    few := by simpa using h.few
    fuse1 := h.fuse1
    fuse2 := h.fuse2 }

theorem PoolIn.drive {w w' : World} {F : Nat → Prop} {pb : Nat} {lv : Value} {dbs : List Nat} {G : Nat → Nat → Prop} {m : PM} (h : PoolIn w F pb lv dbs G m) (i : Nat) (hi : i < m.list.length) (d' : DM)
    (hs : DStep w (G i) (dbs.getD i 0) d' w') : PStep w F pb { m with list := m.list.set i d' } w' :=
  ⟨(h.drive2 i hi d' hs).1, lv, dbs, _, (h.drive2 i hi d' hs).2⟩

set_option maxHeartbeats 400000 in
set_option maxRecDepth 100000 in
theorem pool_find {w : World} {F : Nat → Prop} {pb : Nat} {lv : Value} {dbs : List Nat} {G : Nat → Nat → Prop} {m : PM} (h : PoolIn w F pb lv dbs G m) (i : Nat) (hi : i < m.list.length) (hk : (m.list.getD i dNone).loose.length ≤ 1000000000) (S K : Int) :
    Calls Try.prog 62 #[.pointer (some ⟨pb, 0, none⟩), .int .i64 i, .int .i64 S, .int .i64 K] w fun e w' => e = .returned (.int .i64 (idxV (firstIn (fun j => hasB S K ((m.list.getD i dNone).get j)) (m.list.getD i dNone).cap))) ∧ Below w.heap.size w w' := by
  have hb2 : Below w.heap.size w ((w.alloc (.cells #[.int .i64 S] 3)).alloc (.cells #[.int .i64 K] 3)) := ((Below.refl _ _).alloc (Nat.le_refl _) _).alloc (by simp) _
  have h2 := h.kept (Mod.of_below (fun _ => False) hb2) fun _ _ => id
  have hat := h2.at_ i hi
  have hx : ((w.alloc (.cells #[.int .i64 S] 3)).alloc (.cells #[.int .i64 K] 3)).cell? ⟨w.heap.size, 0, none⟩ = some (.int .i64 S) := by
    rw [World.cell?_alloc_lt _ _ _ (by simp), World.cell?_alloc_new]; rfl
  have hy : ((w.alloc (.cells #[.int .i64 S] 3)).alloc (.cells #[.int .i64 K] 3)).cell? ⟨w.heap.size + 1, 0, none⟩ = some (.int .i64 K) := by
    have := World.cell?_alloc_new (w.alloc (.cells #[.int .i64 S] 3)) #[.int .i64 K] 3 0
    rw [World.size_alloc] at this
    rw [this]; rfl
  have he := each_find (.pointer (some ⟨pb, 0, none⟩)) i _ _ _ _ (w.heap.size) (w.heap.size + 1) S K (h2.sel i hi) hat hk hat.get_le hat.cap_le hx hy
  have HE := Lib.hid he; have HB := Lib.hid hb2
  clear he hb2 h2 hat hx hy h hk hi
  generalize m.list.getD i dNone = d at HE ⊢
  go_enter Try.func62, Try.ntmps62
  go_wp2_with (fail)
  refine HE.out.mono ?_
  rintro e w1 ⟨rfl, hb⟩
  have hb3 := HB.out.trans (hb.mono HB.out.size)
  clear hb
  go_wp2
  go_ret
  exact ⟨rfl, hb3⟩
end Go.Proofs.Fl

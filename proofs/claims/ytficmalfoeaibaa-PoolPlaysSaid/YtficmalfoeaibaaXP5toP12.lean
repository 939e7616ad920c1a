import Derived.Test.YtficmalfoeaibaaXP0toP4
namespace Go.Proofs.Fl
open Go.RowKit

/-- The shards in the first k slots. -/
def DM.heldTo (d : DM) : Nat → List (Nat × Nat)
  | 0 => []
  | k + 1 => match openF (d.get k) with
    | none => d.heldTo k
    | some (s, p, _) => d.heldTo k ++ [(s, p)]
def DM.held (d : DM) : List (Nat × Nat) := d.heldTo d.cap
def hcells (l : List (Nat × Nat)) : List Value := l.flatMap fun p => [.int .i64 (p.1 : Int), .int .i64 (p.2 : Int)]
theorem hcells_snoc (l : List (Nat × Nat)) (s p : Nat) : hcells (l ++ [(s, p)]) = hcells l ++ [.int .i64 (s : Int), .int .i64 (p : Int)] := by simp [hcells]
theorem heldTo_le (d : DM) (k : Nat) : (d.heldTo k).length ≤ k := by
  induction k with
  | zero => simp [DM.heldTo]
  | succ k ih =>
    simp only [DM.heldTo]
    split
    · omega
    · simp; omega

def HeldEnd (w : World) (ob : Nat) (l : List (Nat × Nat)) (w' : World) : Prop :=
  ∃ ov, w'.heap[ob]? = some (.cells #[ov] 34 (0, 0)) ∧ w'.ownsRow (ob + 1) 99 2 ov l.length (hcells l) ∧ Mod (fun b => b = ob) w w' ∧ (∀ g, ov.ownBlock = some g → w.heap.size ≤ g)

set_option maxHeartbeats 2000000 in
set_option maxRecDepth 100000 in
theorem each_held (pv : Value) (n : Int) (db : Nat) (F : Nat → Prop) (d : DM) (w : World) (ob : Nat) (h30 : Calls Try.prog 30 #[pv, .int .i64 n] w fun e w' => e = .returned (.pointer (some ⟨db, 0, none⟩)) ∧ w = w')
    (hD : DriveAt w F db d) (hk : d.loose.length ≤ 1000000000) (hlen : ∀ i, i < d.cap → (d.get i).length ≤ 64) (hcap : d.cap ≤ 128) (hob : w.heap[ob]? = some (.cells #[.slice none 0 0] 34 (0, 0))) (hF : ¬ F ob) :
    Calls Try.prog 63 #[pv, .int .i64 n, .func (.func 68) #[] #[.pointer (some ⟨ob, 0, none⟩)]] w fun e w' => e = .returned (.int .i64 (-1)) ∧ HeldEnd w ob d.held w' := by
  have HL := Lib.hid hlen; clear hlen
  have hobl := blk_lt hob
  have HOB := Lib.hid hob; clear hob
  have HF := Lib.hid hF; clear hF
  go_enter Try.func63, Try.ntmps63
  go_wp2_with (first | (go_at_call 30; refine h30.mono ?_; rintro e w1 ⟨rfl, rfl⟩) | (go_at_call 67; refine (drive_cap hD).mono ?_; rintro e w1 ⟨rfl, rfl⟩))
  go_loopw [16] (fun i wr => ∃ k : Nat, k ≤ d.cap ∧ i = .int .i64 k ∧ HeldEnd w ob (d.heldTo k) wr)
    (fun i _ => d.cap - (intOf i).toNat)
  case atStart => exact ⟨0, by omega, rfl, _, HOB.out, World.ownsRow_nil _ _ _ _, Mod.refl _ _, by simp [Value.ownBlock]⟩
  case round =>
    obtain ⟨k, hkc, rfl, hE⟩ := hrel
    by_cases hlt : k < d.cap
    · obtain ⟨ov, ho1, ho2, hm, hov⟩ := hE
      have hDr : DriveAt wr F db d := hD.kept hm fun b hb e => HF.out (e ▸ hb)
      have hl64 := HL.out k hlt
      have hle := heldTo_le d k
      have HO1 := Lib.hid ho1; have HO2 := Lib.hid ho2; have HOV := Lib.hid hov
      clear ho1 ho2 hov
      cases ho : openF (d.get k) with
      | none =>
        have e1 : d.heldTo (k + 1) = d.heldTo k := by simp [DM.heldTo, ho]
        have HO := Lib.hid ho; have HE1 := Lib.hid e1; clear ho e1
        go_wp2_with (fail)
        refine (drive_read hDr k hlt hk).mono ?_
        rintro e w1 ⟨v1, rfl, hv1, hb1⟩
        obtain ⟨ao1, c1, rfl⟩ := hv1.shape
        go_wp2_with (go_at_call 72; refine (open_none hv1 (by omega) HO.out).mono ?_; rintro e w2 ⟨rfl, hb2⟩)
        have hb3 : Below wr.heap.size wr w2 := hb1.trans (hb2.mono hb1.size)
        refine (held_fn_no _ _ _ ob w2).mono ?_
        rintro e w3 ⟨rfl, rfl⟩
        have hE : HeldEnd w ob (d.heldTo (k + 1)) w2 := by
          rw [HE1.out]
          exact ⟨ov, (hb3.block ob (blk_lt HO1.out)).trans HO1.out, own_below HO2.out hb3, hm.trans (Mod.of_below _ hb3), HOV.out⟩
        have HEE := Lib.hid hE
        clear hv1 hb1 hb2 hDr hb3 hm hE HO HE1 HO1 HO2 HOV
        go_wp2
        go_roundw
        case rel => exact ⟨k + 1, by omega, by go_num, HEE.out⟩
        case measure => simp [intOf]; omega
      | some r =>
        obtain ⟨s, p, b⟩ := r
        have e1 : d.heldTo (k + 1) = d.heldTo k ++ [(s, p)] := by simp [DM.heldTo, ho]
        have HO := Lib.hid ho; have HE1 := Lib.hid e1; clear ho e1
        go_wp2_with (fail)
        refine (drive_read hDr k hlt hk).mono ?_
        rintro e w1 ⟨v1, rfl, hv1, hb1⟩
        obtain ⟨ao1, c1, rfl⟩ := hv1.shape
        go_wp2_with (go_at_call 72; refine (open_some hv1 (by omega) HO.out).mono ?_; rintro e w2 ⟨bv, rfl, hbv, hb2⟩)
        have hb3 : Below wr.heap.size wr w2 := hb1.trans (hb2.mono hb1.size)
        refine (held_fn_yes s p bv ov ob _ _ w2 ((hb3.block ob (blk_lt HO1.out)).trans HO1.out) (own_below HO2.out hb3) (by omega)).mono ?_
        rintro e w3 ⟨rfl, ov', q1, q2, q3, q4⟩
        have hE : HeldEnd w ob (d.heldTo (k + 1)) w3 := by
          rw [HE1.out]
          have hs := hm.size
          have hs3 := hb3.size
          refine ⟨ov', q1, by rw [hcells_snoc]; simpa using q2, (hm.trans (Mod.of_below _ hb3)).then q3 (fun i hi h => ?_), fun g hg => ?_⟩
          · rcases h with h | h
            · exact h
            · have := HOV.out i h; omega
          · rcases q4 with q4 | ⟨g', q4, q5⟩
            · exact HOV.out g (q4 ▸ hg)
            · rw [q4] at hg; injection hg with hg; omega
        have HEE := Lib.hid hE
        clear hv1 hb1 hb2 hDr hb3 hm hE HO HE1 HO1 HO2 HOV q1 q2 q3 q4 hbv
        go_wp2
        go_roundw
        case rel => exact ⟨k + 1, by omega, by go_num, HEE.out⟩
        case measure => simp [intOf]; omega
    · obtain rfl : k = d.cap := by omega
      have HEE := Lib.hid hE; clear hE
      go_wp2
      go_ret
      exact ⟨rfl, HEE.out⟩
end Go.Proofs.Fl

namespace Go.Proofs.Fl
open Go.RowKit

theorem lastW_le (ws : List (Nat × Bytes)) (i : Nat) (b : Bytes) (hb : b.length ≤ 64) (hw : ∀ j, j < ws.length → (ws.getD j (0, [])).2.length ≤ 64) : ∀ k, k ≤ ws.length → (lastW ws i k b).length ≤ 64 := by
  intro k
  induction k with
  | zero => intro _; exact hb
  | succ k ih =>
    intro hk
    simp only [lastW]
    split
    · exact hw k (by omega)
    · exact ih (by omega)
theorem DriveAt.get_le {w : World} {F : Nat → Prop} {db : Nat} {d : DM} (h : DriveAt w F db d) : ∀ i, i < d.cap → (d.get i).length ≤ 64 := by
  intro i hi
  unfold DM.cap at hi
  rcases h.is with ⟨h1, h2, h3, h4, h5⟩ | ⟨h1, lb, ov, lvs, ovs, hl⟩
  · rw [h2] at hi; simp at hi
  · exact lastW_le _ _ _ (hl.at_ i hi).2 (fun j hj => (hl.oat j hj).2.2.2) _ (Nat.le_refl _)
theorem DriveAt.cap_le {w : World} {F : Nat → Prop} {db : Nat} {d : DM} (h : DriveAt w F db d) : d.cap ≤ 128 := by
  unfold DM.cap
  rcases h.is with ⟨h1, h2, h3, h4, h5⟩ | ⟨h1, lb, ov, lvs, ovs, hl⟩
  · rw [h2]; simp
  · exact hl.few
theorem DriveAt.lost_cap {w : World} {F : Nat → Prop} {db : Nat} {d : DM} (h : DriveAt w F db d) (h0 : d.lost = true) : d.cap = 0 := by
  unfold DM.cap
  rcases h.is with ⟨h1, h2, h3, h4, h5⟩ | ⟨h1, lb, ov, lvs, ovs, hl⟩
  · rw [h2]; rfl
  · rw [h1] at h0; cases h0

/-- Slots that answer no drive: each visits none. -/
theorem each_nil (pv fv : Value) (n : Int) (w : World) (h30 : Calls Try.prog 30 #[pv, .int .i64 n] w fun e w' => e = .returned (.pointer none) ∧ w = w') :
    Calls Try.prog 63 #[pv, .int .i64 n, fv] w fun e w' => e = .returned (.int .i64 (-1)) ∧ w = w' := by
  go_enter Try.func63, Try.ntmps63
  go_wp2_with (first | (go_at_call 30; refine h30.mono ?_; rintro e w1 ⟨rfl, rfl⟩) | (go_at_call 67; refine (cap_nil _).mono ?_; rintro e w1 ⟨rfl, rfl⟩))
  go_loop [16] (fun i => i = .int .i64 0) (fun _ => 0)
  case atStart => rfl
  case round =>
    subst hrel
    go_wp2
    go_ret
    exact ⟨rfl, rfl⟩

theorem PoolIn.sel {w : World} {F : Nat → Prop} {pb : Nat} {lv : Value} {dbs : List Nat} {G : Nat → Nat → Prop} {m : PM} (h : PoolIn w F pb lv dbs G m) (i : Nat) (hi : i < m.list.length) :
    Calls Try.prog 30 #[.pointer (some ⟨pb, 0, none⟩), .int .i64 i] w fun e w' => e = .returned (.pointer (some ⟨dbs.getD i 0, 0, none⟩)) ∧ w = w' := by
  have := drive_of h (i : Int)
  unfold ptrOf at this
  rw [if_pos (by rw [h.len]; omega)] at this
  exact this
theorem PoolIn.nosel {w : World} {F : Nat → Prop} {pb : Nat} {lv : Value} {dbs : List Nat} {G : Nat → Nat → Prop} {m : PM} (h : PoolIn w F pb lv dbs G m) (n : Int) (hn : ¬ (0 ≤ n ∧ n < m.list.length)) :
    Calls Try.prog 30 #[.pointer (some ⟨pb, 0, none⟩), .int .i64 n] w fun e w' => e = .returned (.pointer none) ∧ w = w' := by
  have := drive_of h n
  unfold ptrOf at this
  rw [if_neg (by rw [h.len]; exact hn)] at this
  exact this

/-- A drive of a pool has turned. -/
theorem PoolIn.drive2 {w w' : World} {F : Nat → Prop} {pb : Nat} {lv : Value} {dbs : List Nat} {G : Nat → Nat → Prop} {m : PM} (h : PoolIn w F pb lv dbs G m) (i : Nat) (hi : i < m.list.length) (d' : DM)
    (hs : DStep w (G i) (dbs.getD i 0) d' w') : Mod F w w' ∧ PoolIn w' (Ext F w w') pb lv dbs (fun j => if j = i then Ext (G i) w w' else G j) { m with list := m.list.set i d' } := by
  have hmF : Mod F w w' := hs.mod.mono fun k _ hk => (h.sub i k hk).1
  have hGs : ∀ j b, G j b → b < w.heap.size := fun j b hb => h.here b (h.sub j b hb).1
  have hfar : ∀ j b, (if j = i then Ext (G i) w w' else G j) b → G j b ∨ (j = i ∧ w.heap.size ≤ b ∧ b < w'.heap.size) := fun j b hb => by
    split at hb
    · rename_i e; subst e
      rcases hb with hb | hb
      · exact .inl hb
      · exact .inr ⟨rfl, hb⟩
    · exact .inl hb
  refine ⟨hmF, ?_⟩
  exact {
    here := Ext.here h.here hmF.size
    blk := blk_mod hs.mod h.blk fun hb => (h.sub i _ hb).2 rfl
    fpb := .inl h.fpb
    own := by
      have := own_mod h.own hs.mod fun g hg => (h.ownF g hg).2.2 i
      simpa using this
    ownF := fun g hg => by
      have hx := h.ownF g hg
      have hlt := h.here g hx.1
      refine ⟨.inl hx.1, hx.2.1, fun j hj => ?_⟩
      rcases hfar j g hj with hj | hj
      · exact hx.2.2 j hj
      · omega
    len := by simp [h.len]
    at_ := fun j hj => by
      have hj' : j < m.list.length := by simpa using hj
      show DriveAt w' (if j = i then Ext (G i) w w' else G j) (dbs.getD j 0) ((m.list.set i d').getD j dNone)
      rw [getD_set]
      by_cases e : j = i
      · subst e
        rw [if_pos rfl, if_pos ⟨rfl, hj'⟩]
        exact hs.at_
      · rw [if_neg e, if_neg (by omega)]
        exact (h.at_ j hj').kept hs.mod fun b hb hb2 => e (h.apart j i b hb hb2)
    sub := fun j b hb => by
      rcases hfar j b hb with hb | hb
      · exact ⟨.inl (h.sub j b hb).1, (h.sub j b hb).2⟩
      · have := h.here pb h.fpb
        exact ⟨.inr hb.2, by omega⟩
    apart := fun j k b hj hk => by
      rcases hfar j b hj with hj | hj
      · rcases hfar k b hk with hk | hk
        · exact h.apart j k b hj hk
        · have := hGs j b hj; omega
      · rcases hfar k b hk with hk | hk
        · have := hGs k b hk; omega
        · omega
    few := by simpa using h.few
    fuse1 := h.fuse1
    fuse2 := h.fuse2 }

theorem PoolIn.drive {w w' : World} {F : Nat → Prop} {pb : Nat} {lv : Value} {dbs : List Nat} {G : Nat → Nat → Prop} {m : PM} (h : PoolIn w F pb lv dbs G m) (i : Nat) (hi : i < m.list.length) (d' : DM)
    (hs : DStep w (G i) (dbs.getD i 0) d' w') : PStep w F pb { m with list := m.list.set i d' } w' :=
  ⟨(h.drive2 i hi d' hs).1, lv, dbs, _, (h.drive2 i hi d' hs).2⟩

set_option maxHeartbeats 400000 in
set_option maxRecDepth 100000 in
theorem pool_find {w : World} {F : Nat → Prop} {pb : Nat} {lv : Value} {dbs : List Nat} {G : Nat → Nat → Prop} {m : PM} (h : PoolIn w F pb lv dbs G m) (i : Nat) (hi : i < m.list.length) (hk : (m.list.getD i dNone).loose.length ≤ 1000000000) (S K : Int) :
    Calls Try.prog 62 #[.pointer (some ⟨pb, 0, none⟩), .int .i64 i, .int .i64 S, .int .i64 K] w fun e w' => e = .returned (.int .i64 (idxV (firstIn (fun j => hasB S K ((m.list.getD i dNone).get j)) (m.list.getD i dNone).cap))) ∧ Below w.heap.size w w' := by
  have hb2 : Below w.heap.size w ((w.alloc (.cells #[.int .i64 S] 3)).alloc (.cells #[.int .i64 K] 3)) := ((Below.refl _ _).alloc (Nat.le_refl _) _).alloc (by simp) _
  have h2 := h.kept (Mod.of_below (fun _ => False) hb2) fun _ _ => id
  have hat := h2.at_ i hi
  have hx : ((w.alloc (.cells #[.int .i64 S] 3)).alloc (.cells #[.int .i64 K] 3)).cell? ⟨w.heap.size, 0, none⟩ = some (.int .i64 S) := by
    rw [World.cell?_alloc_lt _ _ _ (by simp), World.cell?_alloc_new]; rfl
  have hy : ((w.alloc (.cells #[.int .i64 S] 3)).alloc (.cells #[.int .i64 K] 3)).cell? ⟨w.heap.size + 1, 0, none⟩ = some (.int .i64 K) := by
    have := World.cell?_alloc_new (w.alloc (.cells #[.int .i64 S] 3)) #[.int .i64 K] 3 0
    rw [World.size_alloc] at this
    rw [this]; rfl
  have he := each_find (.pointer (some ⟨pb, 0, none⟩)) i _ _ _ _ (w.heap.size) (w.heap.size + 1) S K (h2.sel i hi) hat hk hat.get_le hat.cap_le hx hy
  have HE := Lib.hid he; have HB := Lib.hid hb2
  clear he hb2 h2 hat hx hy h hk hi
  generalize m.list.getD i dNone = d at HE ⊢
  go_enter Try.func62, Try.ntmps62
  go_wp2_with (fail)
  refine HE.out.mono ?_
  rintro e w1 ⟨rfl, hb⟩
  have hb3 := HB.out.trans (hb.mono HB.out.size)
  clear hb
  go_wp2
  go_ret
  exact ⟨rfl, hb3⟩
end Go.Proofs.Fl

namespace Go.Proofs.Fl
open Go.RowKit

def PM.get (m : PM) (i : Nat) : DM := m.list.getD i dNone
def PM.setD (m : PM) (i : Nat) (d : DM) : PM := { m with list := m.list.set i d }
def DM.find (d : DM) (S K : Int) : Option Nat := firstIn (fun j => hasB S K (d.get j)) d.cap
def DM.free1 (d : DM) : Option Nat := firstIn (fun j => (openF (d.get j)).isNone) d.cap
theorem burn_list (m : PM) : m.burn.2.list = m.list := by unfold PM.burn; split <;> (try split) <;> rfl
theorem burn_get (m : PM) (i : Nat) : m.burn.2.get i = m.get i := by unfold PM.get; rw [burn_list]
theorem find_lt {d : DM} {S K : Int} {j : Nat} (h : d.find S K = some j) : j < d.cap := (firstIn_spec h).1
theorem free1_lt {d : DM} {j : Nat} (h : d.free1 = some j) : j < d.cap := (firstIn_spec h).1

theorem PStep.of {w w1 w2 : World} {F : Nat → Prop} {pb : Nat} {m' : PM} (hF : ∀ b, F b → b < w.heap.size) (h1 : Mod F w w1) (h2 : PStep w1 F pb m' w2) : PStep w F pb m' w2 := by
  refine ⟨h1.trans h2.mod, ?_⟩
  obtain ⟨lv, dbs, G, h⟩ := h2.at_
  have hs1 := h1.size
  have hs2 := h2.mod.size
  have hE : ∀ b, Ext F w1 w2 b → Ext F w w2 b := fun b hb => by
    rcases hb with hb | hb
    · exact .inl hb
    · exact .inr ⟨by omega, hb.2⟩
  exact ⟨lv, dbs, G, { h with
    here := Ext.here hF (by omega)
    fpb := hE _ h.fpb
    ownF := fun g hg => ⟨hE _ (h.ownF g hg).1, (h.ownF g hg).2⟩
    sub := fun i b hb => ⟨hE _ (h.sub i b hb).1, (h.sub i b hb).2⟩ }⟩
theorem PStep.same {w w' : World} {F : Nat → Prop} {pb : Nat} {m : PM} {lv : Value} {dbs : List Nat} {G : Nat → Nat → Prop} (h : PoolIn w' F pb lv dbs G m) (hm : Mod F w w') : PStep w F pb m w' :=
  ⟨hm, lv, dbs, G, h.ext w⟩
theorem PoolIn.pstep {w w' : World} {F : Nat → Prop} {pb : Nat} {m : PM} {lv : Value} {dbs : List Nat} {G : Nat → Nat → Prop} (h : PoolIn w F pb lv dbs G m) (hb : Below w.heap.size w w') : PStep w F pb m w' :=
  PStep.same (h.kept (Mod.of_below (fun _ => False) hb) fun _ _ => id) (Mod.of_below F hb)

def PM.write (m : PM) (i j : Nat) (l : Bytes) : Nat × PM :=
  if m.burn.1 then (0, m.burn.2.setD i ((m.get i).put j l)) else (9, m.burn.2)

set_option maxHeartbeats 800000 in
set_option maxRecDepth 100000 in
theorem pool_write {w : World} {F S : Nat → Prop} {pb : Nat} {lv : Value} {dbs : List Nat} {G : Nat → Nat → Prop} {m : PM} (h : PoolIn w F pb lv dbs G m) (i j : Nat) (hi : i < m.list.length) (hj : j < (m.get i).cap) (hk : (m.get i).loose.length ≤ 1000000000)
    {v : Value} {l : Bytes} (hB : Bs w S v l) (hS : ∀ b, S b → b ≠ pb) (hl : l.length ≤ 64) :
    Calls Try.prog 65 #[.pointer (some ⟨pb, 0, none⟩), .int .i64 i, .int .i64 j, v] w fun e w' => e = .returned (.int .i64 (m.write i j l).1) ∧ PStep w F pb (m.write i j l).2 w' := by
  have hbu := pool_burn h
  obtain ⟨aov, cv, rfl⟩ := hB.shape
  have hFh := h.here
  have hfp := h.fpb
  unfold PM.write
  cases hbn : m.burn.1 with
  | false =>
    rw [hbn] at hbu
    have H := Lib.hid hFh; clear h hFh hB
    simp only [Bool.false_eq_true, if_false]
    clear hbn
    go_enter Try.func65, Try.ntmps65
    go_wp2_with (fail)
    refine hbu.mono ?_
    rintro e w1 ⟨rfl, hm, h1⟩
    have R := Lib.hid (PStep.same h1 (hm.mono (T := F) fun k _ e => e ▸ hfp))
    clear hbu h1 hm
    go_wp2
    go_ret
    exact ⟨rfl, R.out⟩
  | true =>
    rw [hbn] at hbu
    have H := Lib.hid hFh; clear h hFh
    simp only [if_true]
    clear hbn
    go_enter Try.func65, Try.ntmps65
    go_wp2_with (fail)
    refine hbu.mono ?_
    rintro e w1 ⟨rfl, hm, h1⟩
    have hi1 : i < m.burn.2.list.length := by rw [burn_list]; exact hi
    obtain ⟨ao, cap, ob, rfl, rfl, hcell⟩ := h1.cell i hi1
    have h0 : w1.cell? ⟨pb, 0, none⟩ = some _ := blk_cell h1.blk rfl
    have hat := h1.at_ i hi1
    have eg : m.burn.2.list.getD i dNone = m.get i := burn_get m i
    rw [eg] at hat
    have hB1 := hB.kept hm fun k _ hk => hS k hk
    have hd := fun d' w' => h1.drive i hi1 d' (w' := w')
    have hmF : Mod F w w1 := hm.mono fun k _ e => e ▸ hfp
    have hi1' : (i : Int) < (m.burn.2.list.length : Int) := by omega
    have hp := drive_put hat j hj hk hB1 hl
    have HD := Lib.hid hd; have HP := Lib.hid hp; have HM := Lib.hid hmF
    clear hd hp hmF h1 hat hm hB1 hB eg hbu
    go_wp2_with (fail)
    refine HP.out.mono ?_
    rintro e w2 ⟨rfl, hs⟩
    have R := Lib.hid (PStep.of H.out HM.out (HD.out _ _ hs))
    clear hs
    go_wp2
    go_ret
    exact ⟨rfl, R.out⟩
end Go.Proofs.Fl

namespace Go.Proofs.Fl
open Go.RowKit

theorem frame_len (s p : Nat) (b : Bytes) : (frame s p b).length ≤ 60 := by
  unfold frame frameHead
  simp
  omega

theorem pool_free1 {w : World} {F : Nat → Prop} {pb : Nat} {lv : Value} {dbs : List Nat} {G : Nat → Nat → Prop} {m : PM} (h : PoolIn w F pb lv dbs G m) (i : Nat) (hi : i < m.list.length) (hk : (m.get i).loose.length ≤ 1000000000) :
    Calls Try.prog 63 #[.pointer (some ⟨pb, 0, none⟩), .int .i64 i, .func (.func 64) #[] #[]] w fun e w' => e = .returned (.int .i64 (idxV (m.get i).free1)) ∧ Below w.heap.size w w' :=
  each_free _ _ _ _ _ _ (h.sel i hi) (h.at_ i hi) hk (h.at_ i hi).get_le (h.at_ i hi).cap_le

def PM.store (m : PM) (n S K : Int) (b : Bytes) : Nat × PM :=
  if ¬ (0 ≤ n ∧ n < m.list.length) ∨ S < 0 ∨ 1073741824 < S ∨ K < 0 ∨ 255 < K ∨ 50 < b.length then (1, m)
  else if (m.get n.toNat).lost then (8, m)
  else match ((m.get n.toNat).find S K).orElse (fun _ => (m.get n.toNat).free1) with
    | none => (3, m)
    | some j => m.write n.toNat j (frame S.toNat K.toNat b)

theorem store_nil (n S K : Int) (v : Value) (w : World) : Calls Try.prog 20 #[.pointer none, .int .i64 n, .int .i64 S, .int .i64 K, v] w fun e w' => e = .returned (.int .i64 1) ∧ w = w' := by
  go_enter Try.func20, Try.ntmps20
  go_wp2_with (go_at_call 30; refine (drive_of_nil _ _).mono ?_; rintro e w1 ⟨rfl, rfl⟩)
  go_ret
  exact ⟨rfl, rfl⟩

set_option maxHeartbeats 1000000 in
set_option maxRecDepth 100000 in
theorem store_args (i : Nat) (S K : Int) (pv dv : Value) (ao : Option Addr) (len c : Nat) (w : World) (h30 : Calls Try.prog 30 #[pv, .int .i64 i] w fun e w' => e = .returned dv ∧ w = w') (hd : ∃ a, dv = .pointer (some a))
    (h : S < 0 ∨ 1073741824 < S ∨ K < 0 ∨ 255 < K ∨ 50 < len) :
    Calls Try.prog 20 #[pv, .int .i64 i, .int .i64 S, .int .i64 K, .slice ao len c] w fun e w' => e = .returned (.int .i64 1) ∧ w = w' := by
  obtain ⟨a, rfl⟩ := hd
  by_cases h1 : S < 0
  · clear h
    go_enter Try.func20, Try.ntmps20
    go_wp2_with (go_at_call 30; refine h30.mono ?_; rintro e w1 ⟨rfl, rfl⟩)
    go_ret
    exact ⟨rfl, rfl⟩
  · by_cases h2 : 1073741824 < S
    · clear h
      go_enter Try.func20, Try.ntmps20
      go_wp2_with (go_at_call 30; refine h30.mono ?_; rintro e w1 ⟨rfl, rfl⟩)
      go_ret
      exact ⟨rfl, rfl⟩
    · by_cases h3 : K < 0
      · clear h
        go_enter Try.func20, Try.ntmps20
        go_wp2_with (go_at_call 30; refine h30.mono ?_; rintro e w1 ⟨rfl, rfl⟩)
        go_ret
        exact ⟨rfl, rfl⟩
      · by_cases h4 : 255 < K
        · clear h
          go_enter Try.func20, Try.ntmps20
          go_wp2_with (go_at_call 30; refine h30.mono ?_; rintro e w1 ⟨rfl, rfl⟩)
          go_ret
          exact ⟨rfl, rfl⟩
        · have h5 : (50 : Int) < (len : Int) := by omega
          clear h
          go_enter Try.func20, Try.ntmps20
          go_wp2_with (go_at_call 30; refine h30.mono ?_; rintro e w1 ⟨rfl, rfl⟩)
          go_ret
          exact ⟨rfl, rfl⟩

set_option maxHeartbeats 1000000 in
set_option maxRecDepth 100000 in
theorem store_none (n S K : Int) (pv v : Value) (w : World) (h30 : Calls Try.prog 30 #[pv, .int .i64 n] w fun e w' => e = .returned (.pointer none) ∧ w = w') :
    Calls Try.prog 20 #[pv, .int .i64 n, .int .i64 S, .int .i64 K, v] w fun e w' => e = .returned (.int .i64 1) ∧ w = w' := by
  go_enter Try.func20, Try.ntmps20
  go_wp2_with (go_at_call 30; refine h30.mono ?_; rintro e w1 ⟨rfl, rfl⟩)
  go_ret
  exact ⟨rfl, rfl⟩

/-- A walk of Store behind its first tests. -/
theorem store_go {w : World} {F T : Nat → Prop} {pb : Nat} {lv : Value} {dbs : List Nat} {G : Nat → Nat → Prop} {m : PM} (h : PoolIn w F pb lv dbs G m) (i : Nat) (hi : i < m.list.length) (hk : (m.get i).loose.length ≤ 1000000000)
    (S K : Nat) (hS : S ≤ 1073741824) (hK : K ≤ 255) {v : Value} {b : Bytes} (hB : Bs w T v b) (hb : b.length ≤ 50) (r : Nat × PM)
    (hr : r = if (m.get i).lost then (8, m) else match ((m.get i).find S K).orElse (fun _ => (m.get i).free1) with | none => (3, m) | some j => m.write i j (frame S K b)) :
    Calls Try.prog 20 #[.pointer (some ⟨pb, 0, none⟩), .int .i64 i, .int .i64 S, .int .i64 K, v] w fun e w' => e = .returned (.int .i64 r.1) ∧ PStep w F pb r.2 w' := by
  have h30 := h.sel i hi
  have hus := pool_usable ⟨lv, dbs, G, h⟩ (i : Int)
  have hue : m.use (i : Int) = if (m.get i).lost then 8 else 0 := by
    unfold PM.use; rw [if_pos (by omega)]; rfl
  rw [hue] at hus
  have hFh := h.here
  obtain ⟨aov, cv, rfl⟩ := hB.shape
  have g1 : ¬ ((S : Int) < 0) := by omega
  have g2 : ¬ ((1073741824 : Int) < (S : Int)) := by omega
  have g3 : ¬ ((K : Int) < 0) := by omega
  have g4 : ¬ ((255 : Int) < (K : Int)) := by omega
  have g5 : ¬ ((50 : Int) < (b.length : Int)) := by omega
  have HS := Lib.hid hS; have HK := Lib.hid hK
  clear hS hK
  have hfi := pool_find h i hi hk S K
  have hpb := h.here pb h.fpb
  change Calls Try.prog 62 _ w fun e w' => e = .returned (.int .i64 (idxV ((m.get i).find S K))) ∧ Below w.heap.size w w' at hfi
  have HH := Lib.hid h; have HB := Lib.hid hB; have HF := Lib.hid hfi; have HR := Lib.hid hr; have HHI := Lib.hid hi; have HKK := Lib.hid hk
  clear h hB hfi hr hue hi hk
  cases hlo : (m.get i).lost with
  | true =>
    have er : r = (8, m) := by rw [HR.out, hlo]; rfl
    subst er
    rw [hlo] at hus
    have R := Lib.hid (HH.out.pstep (Below.refl _ _))
    clear hlo HR
    go_enter Try.func20, Try.ntmps20
    go_wp2_with (first | (go_at_call 30; refine h30.mono ?_; rintro e w1 ⟨rfl, rfl⟩) | (go_at_call 61; refine hus.mono ?_; rintro e w1 ⟨rfl, rfl⟩))
    go_ret
    exact ⟨rfl, R.out⟩
  | false =>
    rw [hlo] at hus
    cases hff : (m.get i).find S K with
    | some j =>
      have er : r = m.write i j (frame S K b) := by rw [HR.out, hlo, hff]; rfl
      subst er
      have hjc := find_lt hff
      rw [hff] at HF
      clear hlo hff HR
      have hj0 : ¬ ((j : Int) < 0) := by omega
      go_enter Try.func20, Try.ntmps20
      go_wp2_with (first | (go_at_call 30; refine h30.mono ?_; rintro e w1 ⟨rfl, rfl⟩) | (go_at_call 61; refine hus.mono ?_; rintro e w1 ⟨rfl, rfl⟩) | (go_at_call 62; refine HF.out.mono ?_; rintro e w1 ⟨rfl, hb1⟩; simp only [idxV]))
      refine (frame_any S K (Nat.lt_of_le_of_lt HS.out (by decide)) (Nat.lt_of_le_of_lt HK.out (by decide)) (HB.out.below hb1) (by omega)).mono ?_
      rintro e w3 ⟨v3, rfl, hv3, hb3⟩
      have hbb : Below w.heap.size w w3 := hb1.trans (hb3.mono hb1.size)
      have hw := pool_write (HH.out.kept (Mod.of_below (fun _ => False) hbb) fun _ _ => id) i j HHI.out hjc HKK.out hv3 (fun b hb e => by have h1 := hb1.size; subst e; simp only [Fresh] at hb; omega) (Nat.le_trans (frame_len _ _ _) (by decide))
      have HW := Lib.hid hw; have HBB := Lib.hid hbb
      clear hw hv3 hb1 hb3 hbb
      go_wp2_with (fail)
      refine HW.out.mono ?_
      rintro e w4 ⟨rfl, hs⟩
      have R := Lib.hid (PStep.of hFh (Mod.of_below F HBB.out) hs)
      clear hs
      go_wp2
      go_ret
      exact ⟨rfl, R.out⟩
    | none =>
      cases hfr : (m.get i).free1 with
      | none =>
        have er : r = (3, m) := by rw [HR.out, hlo, hff, hfr]; rfl
        subst er
        rw [hff] at HF
        have hfe := fun (w1 : World) (hb1 : Below w.heap.size w w1) => pool_free1 (HH.out.kept (Mod.of_below (fun _ => False) hb1) fun _ _ => id) i HHI.out HKK.out
        rw [hfr] at hfe
        have HFE := Lib.hid hfe
        clear hlo hff HR hfr hfe
        go_enter Try.func20, Try.ntmps20
        go_wp2_with (first | (go_at_call 30; refine h30.mono ?_; rintro e w1 ⟨rfl, rfl⟩) | (go_at_call 61; refine hus.mono ?_; rintro e w1 ⟨rfl, rfl⟩) | (go_at_call 62; refine HF.out.mono ?_; rintro e w1 ⟨rfl, hb1⟩; simp only [idxV]))
        refine (HFE.out _ hb1).mono ?_
        rintro e w2 ⟨rfl, hb2⟩
        simp only [idxV]
        have R := Lib.hid (HH.out.pstep (hb1.trans (hb2.mono hb1.size)))
        clear hb1 hb2
        go_wp2
        go_ret
        exact ⟨rfl, R.out⟩
      | some j =>
        have er : r = m.write i j (frame S K b) := by rw [HR.out, hlo, hff, hfr]; rfl
        subst er
        have hjc := free1_lt hfr
        rw [hff] at HF
        have hfe := fun (w1 : World) (hb1 : Below w.heap.size w w1) => pool_free1 (HH.out.kept (Mod.of_below (fun _ => False) hb1) fun _ _ => id) i HHI.out HKK.out
        rw [hfr] at hfe
        have HFE := Lib.hid hfe
        clear hlo hff HR hfr hfe
        have hj0 : ¬ ((j : Int) < 0) := by omega
        go_enter Try.func20, Try.ntmps20
        go_wp2_with (first | (go_at_call 30; refine h30.mono ?_; rintro e w1 ⟨rfl, rfl⟩) | (go_at_call 61; refine hus.mono ?_; rintro e w1 ⟨rfl, rfl⟩) | (go_at_call 62; refine HF.out.mono ?_; rintro e w1 ⟨rfl, hb1⟩; simp only [idxV]))
        refine (HFE.out _ hb1).mono ?_
        rintro e w2 ⟨rfl, hb2⟩
        simp only [idxV]
        have hb1 := hb1.trans (hb2.mono hb1.size)
        go_wp2_with (fail)
        refine (frame_any S K (Nat.lt_of_le_of_lt HS.out (by decide)) (Nat.lt_of_le_of_lt HK.out (by decide)) (HB.out.below hb1) (by omega)).mono ?_
        rintro e w3 ⟨v3, rfl, hv3, hb3⟩
        have hbb : Below w.heap.size w w3 := hb1.trans (hb3.mono hb1.size)
        have hw := pool_write (HH.out.kept (Mod.of_below (fun _ => False) hbb) fun _ _ => id) i j HHI.out hjc HKK.out hv3 (fun b hb e => by have h1 := hb1.size; subst e; simp only [Fresh] at hb; omega) (Nat.le_trans (frame_len _ _ _) (by decide))
        have HW := Lib.hid hw; have HBB := Lib.hid hbb
        clear hw hv3 hb1 hb3 hbb
        go_wp2_with (fail)
        refine HW.out.mono ?_
        rintro e w4 ⟨rfl, hs⟩
        have R := Lib.hid (PStep.of hFh (Mod.of_below F HBB.out) hs)
        clear hs
        go_wp2
        go_ret
        exact ⟨rfl, R.out⟩
end Go.Proofs.Fl

namespace Go.Proofs.Fl
open Go.RowKit

/-- All loose writes of a pool are not too many. -/
def PM.calm (m : PM) : Prop := ∀ i, i < m.list.length → (m.get i).loose.length ≤ 1000000000

theorem pool_store {w : World} {F T : Nat → Prop} {pb : Nat} {m : PM} (h : PoolAt w F pb m) (hk : m.calm) (n S K : Int) {v : Value} {b : Bytes} (hB : Bs w T v b) :
    Calls Try.prog 20 #[.pointer (some ⟨pb, 0, none⟩), .int .i64 n, .int .i64 S, .int .i64 K, v] w fun e w' => e = .returned (.int .i64 (m.store n S K b).1) ∧ PStep w F pb (m.store n S K b).2 w' := by
  obtain ⟨lv, dbs, G, h⟩ := h
  unfold PM.store
  by_cases hn : 0 ≤ n ∧ n < m.list.length
  · obtain ⟨i, rfl⟩ : ∃ i : Nat, n = i := ⟨n.toNat, by omega⟩
    have e : ((i : Int)).toNat = i := rfl
    rw [e]
    have hi : i < m.list.length := by omega
    by_cases ha : S < 0 ∨ 1073741824 < S ∨ K < 0 ∨ 255 < K ∨ 50 < b.length
    · rw [if_pos (.inr ha)]
      obtain ⟨ao, c, rfl⟩ := hB.shape
      refine (store_args i S K _ _ ao b.length c w (h.sel i hi) ⟨_, rfl⟩ ha).mono ?_
      rintro e w' ⟨rfl, rfl⟩
      exact ⟨rfl, h.pstep (Below.refl _ _)⟩
    · rw [if_neg (by rintro (h' | h'); exact h' hn; exact ha h')]
      obtain ⟨s, rfl⟩ : ∃ s : Nat, S = s := ⟨S.toNat, by omega⟩
      obtain ⟨k, rfl⟩ : ∃ k : Nat, K = k := ⟨K.toNat, by omega⟩
      exact store_go h i hi (hk i hi) s k (by omega) (by omega) hB (by omega) _ rfl
  · rw [if_pos (.inl hn)]
    refine (store_none n S K _ v w (h.nosel n hn)).mono ?_
    rintro e w' ⟨rfl, rfl⟩
    exact ⟨rfl, h.pstep (Below.refl _ _)⟩

def PM.load (m : PM) (n S K : Int) : Bytes × Nat :=
  if m.use n ≠ 0 then ([], m.use n) else match (m.get n.toNat).find S K with
    | none => ([], 7)
    | some j => (match openF ((m.get n.toNat).get j) with | none => [] | some (_, _, b) => b, 0)
def PM.erase (m : PM) (n S K : Int) : Nat × PM :=
  if m.use n ≠ 0 then (m.use n, m) else match (m.get n.toNat).find S K with
    | none => (7, m)
    | some j => m.write n.toNat j []
def PM.flush (m : PM) (n : Int) : Nat × PM :=
  if m.use n ≠ 0 then (m.use n, m) else if m.burn.1 then (0, m.burn.2.setD n.toNat ((m.get n.toNat).keep fun _ => true)) else (9, m.burn.2)

theorem use_cases (m : PM) (n : Int) : m.use n = 1 ∨ m.use n = 8 ∨ (m.use n = 0 ∧ ∃ i : Nat, n = i ∧ i < m.list.length ∧ (m.get i).lost = false) := by
  unfold PM.use
  by_cases hn : 0 ≤ n ∧ n < m.list.length
  · rw [if_pos hn]
    cases hl : (m.list.getD n.toNat dNone).lost with
    | true => exact .inr (.inl rfl)
    | false => exact .inr (.inr ⟨rfl, n.toNat, by omega, by omega, hl⟩)
  · rw [if_neg hn]; exact .inl rfl

/-- What Load answers. -/
def LoadP (w : World) (r : Bytes × Nat) (e : Ending) (w' : World) : Prop := ∃ v, e = .returned (.tuple #[v, .int .i64 r.2]) ∧ Bs w' (Fresh w) v r.1 ∧ Below w.heap.size w w'

set_option maxHeartbeats 1000000 in
set_option maxRecDepth 100000 in
theorem load_bad (pv : Value) (n S K : Int) (x : Nat) (hx : x = 1 ∨ x = 8) (w : World) (hu : Calls Try.prog 61 #[pv, .int .i64 n] w fun e w' => e = .returned (.int .i64 x) ∧ w = w') :
    Calls Try.prog 29 #[pv, .int .i64 n, .int .i64 S, .int .i64 K] w fun e w' => e = .returned (.tuple #[.slice none 0 0, .int .i64 x]) ∧ w = w' := by
  rcases hx with rfl | rfl
  all_goals
    go_enter Try.func29, Try.ntmps29
    go_wp2_with (go_at_call 61; refine hu.mono ?_; rintro e w1 ⟨rfl, rfl⟩)
    go_ret2
    exact ⟨rfl, rfl⟩

set_option maxHeartbeats 1000000 in
set_option maxRecDepth 100000 in
theorem erase_bad (pv : Value) (n S K : Int) (x : Nat) (hx : x = 1 ∨ x = 8) (w : World) (hu : Calls Try.prog 61 #[pv, .int .i64 n] w fun e w' => e = .returned (.int .i64 x) ∧ w = w') :
    Calls Try.prog 21 #[pv, .int .i64 n, .int .i64 S, .int .i64 K] w fun e w' => e = .returned (.int .i64 x) ∧ w = w' := by
  rcases hx with rfl | rfl
  all_goals
    go_enter Try.func21, Try.ntmps21
    go_wp2_with (go_at_call 61; refine hu.mono ?_; rintro e w1 ⟨rfl, rfl⟩)
    go_ret
    exact ⟨rfl, rfl⟩

set_option maxHeartbeats 1000000 in
set_option maxRecDepth 100000 in
theorem flush_bad (pv : Value) (n : Int) (x : Nat) (hx : x = 1 ∨ x = 8) (w : World) (hu : Calls Try.prog 61 #[pv, .int .i64 n] w fun e w' => e = .returned (.int .i64 x) ∧ w = w') :
    Calls Try.prog 26 #[pv, .int .i64 n] w fun e w' => e = .returned (.int .i64 x) ∧ w = w' := by
  rcases hx with rfl | rfl
  all_goals
    go_enter Try.func26, Try.ntmps26
    go_wp2_with (go_at_call 61; refine hu.mono ?_; rintro e w1 ⟨rfl, rfl⟩)
    go_ret
    exact ⟨rfl, rfl⟩

set_option maxHeartbeats 1000000 in
set_option maxRecDepth 100000 in
theorem pool_load {w : World} {F : Nat → Prop} {pb : Nat} {m : PM} (h : PoolAt w F pb m) (hk : m.calm) (n S K : Int) :
    Calls Try.prog 29 #[.pointer (some ⟨pb, 0, none⟩), .int .i64 n, .int .i64 S, .int .i64 K] w (LoadP w (m.load n S K)) := by
  have hus := pool_usable h n
  have hl : ∀ x, m.use n = x → x ≠ 0 → m.load n S K = ([], x) := fun x hx h0 => by unfold PM.load; rw [hx, if_pos h0]
  rcases use_cases m n with hu | hu | ⟨hu, i, rfl, hi, hlive⟩
  · rw [hu] at hus; rw [hl 1 hu (by decide)]
    refine (load_bad _ n S K 1 (.inl rfl) w hus).mono ?_
    rintro e w' ⟨rfl, rfl⟩
    exact ⟨_, rfl, Bs.nil _ _, Below.refl _ _⟩
  · rw [hu] at hus; rw [hl 8 hu (by decide)]
    refine (load_bad _ n S K 8 (.inr rfl) w hus).mono ?_
    rintro e w' ⟨rfl, rfl⟩
    exact ⟨_, rfl, Bs.nil _ _, Below.refl _ _⟩
  · rw [hu] at hus
    obtain ⟨lv, dbs, G, h⟩ := h
    have hfi := pool_find h i hi (hk i hi) S K
    change Calls Try.prog 62 _ w fun e w' => e = .returned (.int .i64 (idxV ((m.get i).find S K))) ∧ Below w.heap.size w w' at hfi
    have el : m.load i S K = match (m.get i).find S K with | none => ([], 7) | some j => (match openF ((m.get i).get j) with | none => [] | some (_, _, b) => b, 0) := by
      unfold PM.load; rw [if_neg (by simp [hu])]; rfl
    rw [el]
    have HH := Lib.hid h; have HI := Lib.hid hi; have HK := Lib.hid hk
    clear el hl hlive hu h hi hk
    cases hf : (m.get i).find S K with
    | none =>
      rw [hf] at hfi
      have HF := Lib.hid hfi
      clear hf hfi
      go_enter Try.func29, Try.ntmps29
      go_wp2_with (first | (go_at_call 61; refine hus.mono ?_; rintro e w1 ⟨rfl, rfl⟩) | (go_at_call 62; refine HF.out.mono ?_; rintro e w1 ⟨rfl, hb1⟩; simp only [idxV]))
      go_ret2
      exact ⟨_, rfl, Bs.nil _ _, hb1⟩
    | some j =>
      have hjc := find_lt hf
      have hhas : hasB S K ((m.get i).get j) = true := (firstIn_spec hf).2
      obtain ⟨s, p, b, ho⟩ : ∃ s p b, openF ((m.get i).get j) = some (s, p, b) := by
        unfold hasB at hhas
        cases ho : openF ((m.get i).get j) with
        | none => rw [ho] at hhas; cases hhas
        | some r => exact ⟨r.1, r.2.1, r.2.2, rfl⟩
      simp only [ho]
      rw [hf] at hfi
      have HF := Lib.hid hfi; have HO := Lib.hid ho
      clear hf hfi hhas ho
      have hj0 : ¬ ((j : Int) < 0) := by omega
      go_enter Try.func29, Try.ntmps29
      go_wp2_with (first | (go_at_call 61; refine hus.mono ?_; rintro e w1 ⟨rfl, rfl⟩) | (go_at_call 62; refine HF.out.mono ?_; rintro e w1 ⟨rfl, hb1⟩; simp only [idxV]))
      have h1 := HH.out.kept (Mod.of_below (fun _ => False) hb1) fun _ _ => id
      have hat := h1.at_ i HI.out
      refine (h1.sel i HI.out).mono ?_
      rintro e w2 ⟨rfl, rfl⟩
      have h64 := hat.get_le j hjc
      have hrd := drive_read hat j hjc (HK.out i HI.out)
      change ((m.get i).get j).length ≤ 64 at h64
      change Calls Try.prog 75 _ w1 fun e w' => ∃ v', e = .returned (.tuple #[v', .int .i64 0]) ∧ Bs w' (Fresh w1) v' ((m.get i).get j) ∧ Below w1.heap.size w1 w' at hrd
      have HRD := Lib.hid hrd
      clear h1 hat hrd
      go_wp2_with (fail)
      refine HRD.out.mono ?_
      rintro e w3 ⟨v3, rfl, hv3, hb3⟩
      obtain ⟨ao3, c3, rfl⟩ := hv3.shape
      go_wp2_with (go_at_call 72; refine (open_some hv3 (by omega) HO.out).mono ?_; rintro e w4 ⟨bv, rfl, hbv, hb4⟩)
      go_ret2
      refine ⟨_, rfl, hbv.mono fun k _ hk' => ?_, (hb1.trans (hb3.mono hb1.size)).trans (hb4.mono (Nat.le_trans hb1.size hb3.size))⟩
      have h1 := hb1.size; have h3 := hb3.size; simp only [Fresh] at hk' ⊢; omega
end Go.Proofs.Fl

namespace Go.Proofs.Fl
open Go.RowKit

set_option maxHeartbeats 1000000 in
set_option maxRecDepth 100000 in
theorem pool_erase {w : World} {F : Nat → Prop} {pb : Nat} {m : PM} (h : PoolAt w F pb m) (hk : m.calm) (n S K : Int) :
    Calls Try.prog 21 #[.pointer (some ⟨pb, 0, none⟩), .int .i64 n, .int .i64 S, .int .i64 K] w fun e w' => e = .returned (.int .i64 (m.erase n S K).1) ∧ PStep w F pb (m.erase n S K).2 w' := by
  have hus := pool_usable h n
  have hl : ∀ x, m.use n = x → x ≠ 0 → m.erase n S K = (x, m) := fun x hx h0 => by unfold PM.erase; rw [hx, if_pos h0]
  rcases use_cases m n with hu | hu | ⟨hu, i, rfl, hi, hlive⟩
  · rw [hu] at hus; rw [hl 1 hu (by decide)]
    refine (erase_bad _ n S K 1 (.inl rfl) w hus).mono ?_
    rintro e w' ⟨rfl, rfl⟩
    obtain ⟨lv, dbs, G, h⟩ := h
    exact ⟨rfl, h.pstep (Below.refl _ _)⟩
  · rw [hu] at hus; rw [hl 8 hu (by decide)]
    refine (erase_bad _ n S K 8 (.inr rfl) w hus).mono ?_
    rintro e w' ⟨rfl, rfl⟩
    obtain ⟨lv, dbs, G, h⟩ := h
    exact ⟨rfl, h.pstep (Below.refl _ _)⟩
  · rw [hu] at hus
    obtain ⟨lv, dbs, G, h⟩ := h
    have hfi := pool_find h i hi (hk i hi) S K
    change Calls Try.prog 62 _ w fun e w' => e = .returned (.int .i64 (idxV ((m.get i).find S K))) ∧ Below w.heap.size w w' at hfi
    have el : m.erase i S K = match (m.get i).find S K with | none => (7, m) | some j => m.write i j [] := by
      unfold PM.erase; rw [if_neg (by simp [hu])]; rfl
    rw [el]
    have hFh := Lib.hid h.here
    have HH := Lib.hid h; have HI := Lib.hid hi; have HK := Lib.hid hk
    clear el hl hlive hu h hi hk
    cases hf : (m.get i).find S K with
    | none =>
      rw [hf] at hfi
      have HF := Lib.hid hfi
      clear hf hfi
      go_enter Try.func21, Try.ntmps21
      go_wp2_with (first | (go_at_call 61; refine hus.mono ?_; rintro e w1 ⟨rfl, rfl⟩) | (go_at_call 62; refine HF.out.mono ?_; rintro e w1 ⟨rfl, hb1⟩; simp only [idxV]))
      go_ret
      exact ⟨rfl, HH.out.pstep hb1⟩
    | some j =>
      have hjc := find_lt hf
      rw [hf] at hfi
      have HF := Lib.hid hfi
      clear hf hfi
      have hj0 : ¬ ((j : Int) < 0) := by omega
      go_enter Try.func21, Try.ntmps21
      go_wp2_with (first | (go_at_call 61; refine hus.mono ?_; rintro e w1 ⟨rfl, rfl⟩) | (go_at_call 62; refine HF.out.mono ?_; rintro e w1 ⟨rfl, hb1⟩; simp only [idxV]))
      have hw := pool_write (HH.out.kept (Mod.of_below (fun _ => False) hb1) fun _ _ => id) i j HI.out hjc (HK.out i HI.out) (Bs.nil w1 (fun _ => False)) (fun _ h => h.elim) (by simp)
      refine hw.mono ?_
      rintro e w2 ⟨rfl, hs⟩
      have R := Lib.hid (PStep.of hFh.out (Mod.of_below F hb1) hs)
      clear hs hw
      go_wp2
      go_ret
      exact ⟨rfl, R.out⟩

set_option maxHeartbeats 1000000 in
set_option maxRecDepth 100000 in
theorem pool_flush {w : World} {F : Nat → Prop} {pb : Nat} {m : PM} (h : PoolAt w F pb m) (hk : m.calm) (n : Int) :
    Calls Try.prog 26 #[.pointer (some ⟨pb, 0, none⟩), .int .i64 n] w fun e w' => e = .returned (.int .i64 (m.flush n).1) ∧ PStep w F pb (m.flush n).2 w' := by
  have hus := pool_usable h n
  have hl : ∀ x, m.use n = x → x ≠ 0 → m.flush n = (x, m) := fun x hx h0 => by unfold PM.flush; rw [hx, if_pos h0]
  rcases use_cases m n with hu | hu | ⟨hu, i, rfl, hi, hlive⟩
  · rw [hu] at hus; rw [hl 1 hu (by decide)]
    refine (flush_bad _ n 1 (.inl rfl) w hus).mono ?_
    rintro e w' ⟨rfl, rfl⟩
    obtain ⟨lv, dbs, G, h⟩ := h
    exact ⟨rfl, h.pstep (Below.refl _ _)⟩
  · rw [hu] at hus; rw [hl 8 hu (by decide)]
    refine (flush_bad _ n 8 (.inr rfl) w hus).mono ?_
    rintro e w' ⟨rfl, rfl⟩
    obtain ⟨lv, dbs, G, h⟩ := h
    exact ⟨rfl, h.pstep (Below.refl _ _)⟩
  · rw [hu] at hus
    obtain ⟨lv, dbs, G, h⟩ := h
    have el : m.flush i = if m.burn.1 then (0, m.burn.2.setD i ((m.get i).keep fun _ => true)) else (9, m.burn.2) := by
      unfold PM.flush; rw [if_neg (by simp [hu])]; rfl
    rw [el]
    have hbu := pool_burn h
    have hFh := Lib.hid h.here
    have hfp := h.fpb
    have hki := hk i hi
    clear el hl hu hk h
    cases hbn : m.burn.1 with
    | false =>
      rw [hbn] at hbu
      simp only [Bool.false_eq_true, if_false]
      clear hbn
      go_enter Try.func26, Try.ntmps26
      go_wp2_with (first | (go_at_call 61; refine hus.mono ?_; rintro e w1 ⟨rfl, rfl⟩) | (go_at_call 69; refine hbu.mono ?_; rintro e w1 ⟨rfl, hm, h1⟩; have R := Lib.hid (PStep.same h1 (hm.mono (T := F) fun k _ e => e ▸ hfp)); clear hbu h1 hm))
      go_ret
      exact ⟨rfl, R.out⟩
    | true =>
      rw [hbn] at hbu
      simp only [if_true]
      clear hbn
      go_enter Try.func26, Try.ntmps26
      go_wp2_with (first | (go_at_call 61; refine hus.mono ?_; rintro e w1 ⟨rfl, rfl⟩))
      refine hbu.mono ?_
      rintro e w1 ⟨rfl, hm, h1⟩
      have hi1 : i < m.burn.2.list.length := by rw [burn_list]; exact hi
      obtain ⟨ao, cap, ob, rfl, rfl, hcell⟩ := h1.cell i hi1
      have h0 : w1.cell? ⟨pb, 0, none⟩ = some _ := blk_cell h1.blk rfl
      have hat := h1.at_ i hi1
      have eg : m.burn.2.list.getD i dNone = m.get i := burn_get m i
      rw [eg] at hat
      have hd := fun d' w' => h1.drive i hi1 d' (w' := w')
      have hmF : Mod F w w1 := hm.mono fun k _ e => e ▸ hfp
      have hi1' : (i : Int) < (m.burn.2.list.length : Int) := by omega
      have hp := drive_flush hat hlive hki
      have HD := Lib.hid hd; have HP := Lib.hid hp; have HM := Lib.hid hmF
      clear hd hp hmF h1 hat hm eg hbu hlive
      go_wp2_with (fail)
      refine HP.out.mono ?_
      rintro e w2 ⟨rfl, hs⟩
      have R := Lib.hid (PStep.of hFh.out HM.out (HD.out _ _ hs))
      clear hs
      go_wp2
      go_ret
      exact ⟨rfl, R.out⟩

/-! Held, Free -/
/-- v is a slice of the pairs l. -/
def Prs (w : World) (S : Nat → Prop) (v : Value) (l : List (Nat × Nat)) : Prop :=
  ∃ ao c, v = .slice ao l.length c ∧ (0 < l.length → ∃ b, ao = some ⟨b, 0, none⟩ ∧ S b ∧ b < w.heap.size ∧
    ∀ j, j < l.length → w.cell? ⟨b, j * 2, none⟩ = some (.int .i64 ((l.getD j (0, 0)).1 : Int)) ∧ w.cell? ⟨b, j * 2 + 1, none⟩ = some (.int .i64 ((l.getD j (0, 0)).2 : Int)))
def PM.held (m : PM) (n : Int) : List (Nat × Nat) := if 0 ≤ n ∧ n < m.list.length then (m.get n.toNat).held else []
def PM.free (m : PM) (n : Int) : Int := if 0 ≤ n ∧ n < m.list.length then (m.get n.toNat).cap - (m.get n.toNat).held.length else 0

theorem hcells_at (ws : List (Nat × Nat)) (k : Nat) (h : k < ws.length) : (hcells ws)[k * 2]? = some (.int .i64 ((ws.getD k (0, 0)).1 : Int)) ∧ (hcells ws)[k * 2 + 1]? = some (.int .i64 ((ws.getD k (0, 0)).2 : Int)) := by
  induction ws generalizing k with
  | nil => simp at h
  | cons p ws ih =>
    cases k with
    | zero => simp [hcells]
    | succ k =>
      have := ih k (by simpa using h)
      have e1 : (k + 1) * 2 = k * 2 + 1 + 1 := by omega
      simp only [hcells, List.flatMap_cons, List.cons_append, List.nil_append, e1, List.getElem?_cons_succ, List.getD_cons_succ] at this ⊢
      exact this
theorem Prs.of_own {w : World} {base : Nat} {v : Value} {l : List (Nat × Nat)} (h : w.ownsRow base 99 2 v l.length (hcells l)) (S : Nat → Prop) (hS : ∀ g, v.ownBlock = some g → S g) : Prs w S v l := by
  obtain ⟨oa, m, c, rfl⟩ := own_shape h
  have hm := own_len h
  subst hm
  refine ⟨oa, c, rfl, fun h0 => ?_⟩
  rcases h.2 with ⟨h1, h2⟩ | ⟨g, cap, cur, h1, _⟩
  · omega
  · injection h1 with e1 _ _
    subst e1
    refine ⟨g, rfl, hS g rfl, (h.lt g rfl).2, fun j hj => ?_⟩
    have ha : ∀ i, (⟨g, 0, none⟩ : Addr).add i = ⟨g, i, none⟩ := fun i => by unfold Addr.add; split <;> simp_all
    have hc := hcells_at l j hj
    have c1 := h.cells (g := g) rfl _ _ hc.1
    have c2 := h.cells (g := g) rfl _ _ hc.2
    rw [ha] at c1 c2
    exact ⟨c1, c2⟩

def HeldV (w : World) (l : List (Nat × Nat)) (e : Ending) (w' : World) : Prop := ∃ v, e = .returned v ∧ Prs w' (Fresh w) v l ∧ Below w.heap.size w w'

set_option maxHeartbeats 1000000 in
set_option maxRecDepth 100000 in
theorem held_none (pv : Value) (n : Int) (w : World) (h30 : Calls Try.prog 30 #[pv, .int .i64 n] (w.alloc (.cells #[.slice none 0 0] 34)) fun e w' => e = .returned (.pointer none) ∧ (w.alloc (.cells #[.slice none 0 0] 34)) = w') : Calls Try.prog 25 #[pv, .int .i64 n] w (HeldV w []) := by
  have hE := fun fv => each_nil pv fv n _ h30
  have hc : (w.alloc (.cells #[.slice none 0 0] 34)).cell? ⟨w.heap.size, 0, none⟩ = some (.slice none 0 0) := by rw [World.cell?_alloc_new]; rfl
  go_enter Try.func25, Try.ntmps25
  go_wp2_with (go_at_call 63; refine (hE _).mono ?_; rintro e w1 ⟨rfl, rfl⟩)
  go_ret
  exact ⟨_, rfl, ⟨none, 0, rfl, by simp⟩, (Below.refl _ _).alloc (Nat.le_refl _) _⟩

set_option maxHeartbeats 1000000 in
set_option maxRecDepth 100000 in
theorem held_some {w : World} {F : Nat → Prop} {pb : Nat} {lv : Value} {dbs : List Nat} {G : Nat → Nat → Prop} {m : PM} (h : PoolIn w F pb lv dbs G m) (i : Nat) (hi : i < m.list.length) (hk : (m.get i).loose.length ≤ 1000000000) :
    Calls Try.prog 25 #[.pointer (some ⟨pb, 0, none⟩), .int .i64 i] w (HeldV w (m.get i).held) := by
  have hb1 : Below w.heap.size w (w.alloc (.cells #[.slice none 0 0] 34)) := (Below.refl _ _).alloc (Nat.le_refl _) _
  have h1 := h.kept (Mod.of_below (fun _ => False) hb1) fun _ _ => id
  have hat := h1.at_ i hi
  have he := each_held _ i _ _ _ _ w.heap.size (h1.sel i hi) hat hk hat.get_le hat.cap_le (heap_alloc_new w _) (fun hb => by have := h.here _ (h.sub i _ hb).1; omega)
  have HE := Lib.hid he
  clear he hat h1 h hk hb1
  go_enter Try.func25, Try.ntmps25
  go_wp2_with (fail)
  refine HE.out.mono ?_
  rintro e w1 ⟨rfl, ov, q1, q2, q3, q4⟩
  have hc : w1.cell? ⟨w.heap.size, 0, none⟩ = some ov := blk_cell q1 rfl
  have hsz := q3.size
  rw [World.size_alloc] at hsz
  obtain ⟨oa, on_, oc, rfl⟩ := own_shape q2
  have hbel : Below w.heap.size w w1 := ⟨q3.os, q3.tape, q3.output, by omega, fun k hk => (q3.block k (by simp; omega) (by omega)).trans (Below.heap_alloc w _ k hk)⟩
  have hP : Prs w1 (Fresh w) (.slice oa on_ oc) (m.get i).held := Prs.of_own q2 _ fun g hg => by
    have := q4 g hg; simp only [World.size_alloc] at this; simp only [Fresh]; omega
  have R := Lib.hid (And.intro hP hbel)
  clear q1 q2 q3 q4 hP hbel
  go_wp2
  go_ret
  exact ⟨_, rfl, R.out.1, R.out.2⟩

theorem pool_held {w : World} {F : Nat → Prop} {pb : Nat} {m : PM} (h : PoolAt w F pb m) (hk : m.calm) (n : Int) : Calls Try.prog 25 #[.pointer (some ⟨pb, 0, none⟩), .int .i64 n] w (HeldV w (m.held n)) := by
  obtain ⟨lv, dbs, G, h⟩ := h
  unfold PM.held
  by_cases hn : 0 ≤ n ∧ n < m.list.length
  · rw [if_pos hn]
    obtain ⟨i, rfl⟩ : ∃ i : Nat, n = i := ⟨n.toNat, by omega⟩
    exact held_some h i (by omega) (hk i (by omega))
  · rw [if_neg hn]
    exact held_none _ n w ((h.kept (Mod.of_below (fun _ => False) ((Below.refl _ _).alloc (Nat.le_refl _) _)) fun _ _ => id).nosel n hn)
theorem held_nil (n : Int) (w : World) : Calls Try.prog 25 #[.pointer none, .int .i64 n] w (HeldV w []) := held_none _ n w (drive_of_nil n _)

theorem held_le (d : DM) : d.held.length ≤ d.cap := heldTo_le d d.cap

set_option maxHeartbeats 1000000 in
set_option maxRecDepth 100000 in
theorem free_nil (n : Int) (w : World) : Calls Try.prog 23 #[.pointer none, .int .i64 n] w fun e w' => e = .returned (.int .i64 0) ∧ Below w.heap.size w w' := by
  go_enter Try.func23, Try.ntmps23
  go_wp2_with (first | (go_at_call 30; refine (drive_of_nil _ _).mono ?_; rintro e w1 ⟨rfl, rfl⟩) | (go_at_call 67; refine (cap_nil _).mono ?_; rintro e w1 ⟨rfl, rfl⟩))
  refine (held_nil n w).mono ?_
  rintro e w1 ⟨v, rfl, ⟨ao, c, rfl, _⟩, hb⟩
  go_wp2
  go_ret
  exact ⟨rfl, hb⟩

set_option maxHeartbeats 1000000 in
set_option maxRecDepth 100000 in
theorem pool_free {w : World} {F : Nat → Prop} {pb : Nat} {m : PM} (h : PoolAt w F pb m) (hk : m.calm) (n : Int) :
    Calls Try.prog 23 #[.pointer (some ⟨pb, 0, none⟩), .int .i64 n] w fun e w' => e = .returned (.int .i64 (m.free n)) ∧ Below w.heap.size w w' := by
  have hh := pool_held h hk n
  obtain ⟨lv, dbs, G, h⟩ := h
  unfold PM.free
  unfold PM.held at hh
  by_cases hn : 0 ≤ n ∧ n < m.list.length
  · rw [if_pos hn]
    rw [if_pos hn] at hh
    obtain ⟨i, rfl⟩ : ∃ i : Nat, n = i := ⟨n.toNat, by omega⟩
    have e : ((i : Int)).toNat = i := rfl
    rw [e] at hh ⊢
    have hi : i < m.list.length := by omega
    have h30 := h.sel i hi
    have hcp := drive_cap (h.at_ i hi)
    change Calls Try.prog 67 _ w fun e w' => e = .returned (.int .i64 ((m.get i).cap)) ∧ w = w' at hcp
    have hle := held_le (m.get i)
    have hc2 := (h.at_ i hi).cap_le
    change (m.get i).cap ≤ 128 at hc2
    generalize m.get i = d at hh hcp hle hc2 ⊢
    clear h hk hn e
    generalize d.held = hl at hh hle ⊢
    generalize d.cap = dc at hcp hle hc2 ⊢
    go_enter Try.func23, Try.ntmps23
    go_wp2_with (first | (go_at_call 30; refine h30.mono ?_; rintro e w1 ⟨rfl, rfl⟩) | (go_at_call 67; refine hcp.mono ?_; rintro e w1 ⟨rfl, rfl⟩))
    refine hh.mono ?_
    rintro e w1 ⟨v, rfl, ⟨ao, c, rfl, _⟩, hb⟩
    go_wp2
    go_ret
    exact ⟨rfl, hb⟩
  · rw [if_neg hn]
    rw [if_neg hn] at hh
    have h30 := h.nosel n hn
    clear h hk hn
    go_enter Try.func23, Try.ntmps23
    go_wp2_with (first | (go_at_call 30; refine h30.mono ?_; rintro e w1 ⟨rfl, rfl⟩) | (go_at_call 67; refine (cap_nil _).mono ?_; rintro e w1 ⟨rfl, rfl⟩))
    refine hh.mono ?_
    rintro e w1 ⟨v, rfl, ⟨ao, c, rfl, _⟩, hb⟩
    go_wp2
    go_ret
    exact ⟨rfl, hb⟩
end Go.Proofs.Fl

namespace Go.Proofs.Fl
open Go.RowKit

/-- how far drive i's bits are turned, to the left -/
def turnS (i : Nat) : Nat := (64 - 7 * i % 64) % 64
def rotN (x s : Nat) : Nat := (x * 2 ^ s % 18446744073709551616) ||| (x / 2 ^ (64 - s))
theorem rotN_le (x s : Nat) (hx : x ≤ 18446744073709551615) : rotN x s ≤ 18446744073709551615 := by
  unfold rotN
  have h1 : x * 2 ^ s % 18446744073709551616 < 2 ^ 64 := Nat.mod_lt _ (by decide)
  have h2 : x / 2 ^ (64 - s) < 2 ^ 64 := Nat.lt_of_le_of_lt (Nat.div_le_self _ _) (by omega)
  have := Nat.or_lt_two_pow h1 h2
  omega
theorem rot_eq (x s : Nat) (hx : x ≤ 18446744073709551615) : bits BinOp.or IntKind.u64 (IntKind.u64.wrap ((x : Int) * 2 ^ s)) ((x : Int) / 2 ^ (64 - s)) = (rotN x s : Int) := by
  have h1 : IntKind.u64.wrap ((x : Int) * 2 ^ s) = ((x * 2 ^ s % 18446744073709551616 : Nat) : Int) := by
    simp [IntKind.wrap, IntKind.bits, IntKind.signed]
  have h2 : (x : Int) / 2 ^ (64 - s) = ((x / 2 ^ (64 - s) : Nat) : Int) := by simp
  rw [h1, h2, u64_or_nat _ _ (Nat.mod_lt _ (by decide)) (Nat.lt_of_le_of_lt (Nat.div_le_self _ _) (by omega))]
  rfl
theorem turn_eq (i : Nat) (hi : i < 12) : bits BinOp.and IntKind.u64 (IntKind.u64.wrap (-7 * (i : Int))) 63 = (turnS i : Int) := by
  have h : ∀ i : Fin 12, bits BinOp.and IntKind.u64 (IntKind.u64.wrap (-7 * ((i : Nat) : Int))) 63 = (turnS i : Int) := by decide +kernel
  exact h ⟨i, hi⟩

set_option maxHeartbeats 1000000 in
set_option maxRecDepth 100000 in
theorem rot_any (x : Nat) (hx : x ≤ 18446744073709551615) (i : Nat) (hi : i < 12) (w : World) : Calls Try.prog 74 #[.int .u64 x, .int .i64 (-7 * (i : Int))] w fun e w' => e = .returned (.int .u64 (rotN x (turnS i))) ∧ w = w' := by
  have h1 := turn_eq i hi
  have h2 : turnS i ≤ 63 := by unfold turnS; omega
  have h3 := rot_eq x (turnS i) hx
  generalize turnS i = s at h1 h2 h3 ⊢
  have HX := Lib.hid hx; clear hx
  go_enter Try.func74, Try.ntmps74
  go_wp2
  go_ret
  exact ⟨rfl, rfl⟩

/-! Lasts -/
def DM.lastsB (d : DM) (S K : Int) : Bool := (firstIn (fun j => hasB S K (d.lasts.getD j [])) d.cap).isSome
def PM.lasts (m : PM) (n S K : Int) : Bool := if 0 ≤ n ∧ n < m.list.length then (m.get n.toNat).lastsB S K else false

theorem DriveAt.last_le {w : World} {F : Nat → Prop} {db : Nat} {d : DM} (h : DriveAt w F db d) : ∀ i, i < d.cap → (d.lasts.getD i []).length ≤ 64 := by
  intro i hi
  unfold DM.cap at hi
  rcases h.is with ⟨h1, h2, h3, h4, h5⟩ | ⟨h1, lb, ov, lvs, ovs, hl⟩
  · rw [h2] at hi; simp at hi
  · exact (hl.at_ i hi).2

set_option maxHeartbeats 1000000 in
set_option maxRecDepth 100000 in
theorem lasts_none (pv : Value) (n S K : Int) (w : World) (h30 : Calls Try.prog 30 #[pv, .int .i64 n] w fun e w' => e = .returned (.pointer none) ∧ w = w') :
    Calls Try.prog 27 #[pv, .int .i64 n, .int .i64 S, .int .i64 K] w fun e w' => e = .returned (.bool false) ∧ w = w' := by
  go_enter Try.func27, Try.ntmps27
  go_wp2_with (first | (go_at_call 30; refine h30.mono ?_; rintro e w1 ⟨rfl, rfl⟩) | (go_at_call 67; refine (cap_nil _).mono ?_; rintro e w1 ⟨rfl, rfl⟩))
  go_loop [22] (fun i => i = .int .i64 0) (fun _ => 0)
  case atStart => rfl
  case round =>
    subst hrel
    go_wp2
    go_ret
    exact ⟨rfl, rfl⟩

theorem ret_bool {a b : Bool} (h : a = b) : Ending.returned (.bool a) = .returned (.bool b) := by rw [h]

set_option maxHeartbeats 2000000 in
set_option maxRecDepth 100000 in
theorem lasts_some (pv : Value) (n S K : Int) (db : Nat) (F : Nat → Prop) (d : DM) (w : World) (h30 : Calls Try.prog 30 #[pv, .int .i64 n] w fun e w' => e = .returned (.pointer (some ⟨db, 0, none⟩)) ∧ w = w')
    (hD : DriveAt w F db d) : Calls Try.prog 27 #[pv, .int .i64 n, .int .i64 S, .int .i64 K] w fun e w' => e = .returned (.bool (d.lastsB S K)) ∧ Below w.heap.size w w' := by
  have HL := Lib.hid hD.last_le
  have hcap := hD.cap_le
  go_enter Try.func27, Try.ntmps27
  go_wp2_with (first | (go_at_call 30; refine h30.mono ?_; rintro e w1 ⟨rfl, rfl⟩) | (go_at_call 67; refine (drive_cap hD).mono ?_; rintro e w1 ⟨rfl, rfl⟩))
  go_loopw [22] (fun i wr => ∃ k : Nat, k ≤ d.cap ∧ i = .int .i64 k ∧ (∀ j, j < k → hasB S K (d.lasts.getD j []) = false) ∧ Below w.heap.size w wr)
    (fun i _ => d.cap - (intOf i).toNat)
  case atStart => exact ⟨0, by omega, rfl, by omega, Below.refl _ _⟩
  case round =>
    obtain ⟨k, hkc, rfl, hq, hb⟩ := hrel
    have HQ := Lib.hid hq; clear hq
    by_cases hlt : k < d.cap
    · have hDr := hD.below hb
      have hl64 := HL.out k hlt
      have hgo : hasB S K (d.lasts.getD k []) = false → ∀ j, j < k + 1 → hasB S K (d.lasts.getD j []) = false := fun h0 j hj => by
        by_cases e : j = k
        · subst e; exact h0
        · exact HQ.out j (by omega)
      have HGO := Lib.hid hgo; clear hgo
      have hrd := drive_lasts hDr k hlt
      clear hDr
      cases ho : openF (d.lasts.getD k []) with
      | none =>
        have hqk : hasB S K (d.lasts.getD k []) = false := by simp only [hasB, ho]
        have HO := Lib.hid ho; have HN := Lib.hid (HGO.out hqk); clear ho hqk
        generalize d.lasts.getD k [] = lk at hrd HO hl64
        go_wp2_with (fail)
        refine hrd.mono ?_
        rintro e w1 ⟨v1, rfl, hv1, hb1⟩
        obtain ⟨ao1, c1, rfl⟩ := hv1.shape
        go_wp2_with (go_at_call 72; refine (open_none hv1 (by omega) HO.out).mono ?_; rintro e w2 ⟨rfl, hb2⟩)
        have hb3 := (hb.trans (hb1.mono hb.size)).trans (hb2.mono (Nat.le_trans hb.size hb1.size))
        go_roundw
        case rel => exact ⟨k + 1, by omega, by go_num, HN.out, hb3⟩
        case measure => simp [intOf]; omega
      | some r =>
        obtain ⟨s, p, b⟩ := r
        have hqe : hasB S K (d.lasts.getD k []) = (((s : Int) == S) && ((p : Int) == K)) := by simp only [hasB, ho]
        have HO := Lib.hid ho; clear ho
        cases hqk : hasB S K (d.lasts.getD k []) with
        | false =>
          have HN := Lib.hid (HGO.out hqk)
          rw [hqk] at hqe
          have h12 : ¬ ((s : Int) = S) ∨ ((s : Int) = S ∧ ¬ ((p : Int) = K)) := by
            by_cases h1 : (s : Int) = S
            · by_cases h2 : (p : Int) = K
              · simp [h1, h2] at hqe
              · exact .inr ⟨h1, h2⟩
            · exact .inl h1
          clear hqe hqk
          generalize d.lasts.getD k [] = lk at hrd HO hl64
          rcases h12 with h1 | ⟨h1, h2⟩
          · go_wp2_with (fail)
            refine hrd.mono ?_
            rintro e w1 ⟨v1, rfl, hv1, hb1⟩
            obtain ⟨ao1, c1, rfl⟩ := hv1.shape
            go_wp2_with (go_at_call 72; refine (open_some hv1 (by omega) HO.out).mono ?_; rintro e w2 ⟨bv, rfl, hbv, hb2⟩)
            have hb3 := (hb.trans (hb1.mono hb.size)).trans (hb2.mono (Nat.le_trans hb.size hb1.size))
            go_roundw
            case rel => exact ⟨k + 1, by omega, by go_num, HN.out, hb3⟩
            case measure => simp [intOf]; omega
          · subst h1
            go_wp2_with (fail)
            refine hrd.mono ?_
            rintro e w1 ⟨v1, rfl, hv1, hb1⟩
            obtain ⟨ao1, c1, rfl⟩ := hv1.shape
            go_wp2_with (go_at_call 72; refine (open_some hv1 (by omega) HO.out).mono ?_; rintro e w2 ⟨bv, rfl, hbv, hb2⟩)
            have hb3 := (hb.trans (hb1.mono hb.size)).trans (hb2.mono (Nat.le_trans hb.size hb1.size))
            go_roundw
            case rel => exact ⟨k + 1, by omega, by go_num, HN.out, hb3⟩
            case measure => simp [intOf]; omega
        | true =>
          have hfin : d.lastsB S K = true := by unfold DM.lastsB; rw [firstIn_some hlt hqk HQ.out]; rfl
          rw [hqk] at hqe
          have h1 : (s : Int) = S := by simp at hqe; exact hqe.1
          have h2 : (p : Int) = K := by simp at hqe; exact hqe.2
          subst h1; subst h2
          have HFIN := Lib.hid hfin
          clear hqe hqk hfin
          generalize d.lasts.getD k [] = lk at hrd HO hl64
          go_wp2_with (fail)
          refine hrd.mono ?_
          rintro e w1 ⟨v1, rfl, hv1, hb1⟩
          obtain ⟨ao1, c1, rfl⟩ := hv1.shape
          go_wp2_with (go_at_call 72; refine (open_some hv1 (by omega) HO.out).mono ?_; rintro e w2 ⟨bv, rfl, hbv, hb2⟩)
          have hb3 := (hb.trans (hb1.mono hb.size)).trans (hb2.mono (Nat.le_trans hb.size hb1.size))
          go_ret
          exact ⟨ret_bool HFIN.out.symm, hb3⟩
    · obtain rfl : k = d.cap := by omega
      go_wp2
      go_ret
      exact ⟨ret_bool (by unfold DM.lastsB; rw [firstIn_none HQ.out]; rfl), hb⟩

theorem pool_lasts {w : World} {F : Nat → Prop} {pb : Nat} {m : PM} (h : PoolAt w F pb m) (n S K : Int) :
    Calls Try.prog 27 #[.pointer (some ⟨pb, 0, none⟩), .int .i64 n, .int .i64 S, .int .i64 K] w fun e w' => e = .returned (.bool (m.lasts n S K)) ∧ Below w.heap.size w w' := by
  obtain ⟨lv, dbs, G, h⟩ := h
  unfold PM.lasts
  by_cases hn : 0 ≤ n ∧ n < m.list.length
  · rw [if_pos hn]
    obtain ⟨i, rfl⟩ : ∃ i : Nat, n = i := ⟨n.toNat, by omega⟩
    exact lasts_some _ i S K _ _ _ w (h.sel i (by omega)) (h.at_ i (by omega))
  · rw [if_neg hn]
    refine (lasts_none _ n S K w (h.nosel n hn)).mono ?_
    rintro e w' ⟨rfl, rfl⟩
    exact ⟨rfl, Below.refl _ _⟩
end Go.Proofs.Fl

namespace Go.Proofs.Fl
open Go.RowKit

def PM.crashTo (m : PM) (x : Nat) : Nat → PM
  | 0 => m
  | k + 1 => (m.crashTo x k).setD k (((m.crashTo x k).get k).keep (crashSel (rotN x (turnS k))))
def PM.crash (m : PM) (x : Nat) : PM := { m.crashTo x m.list.length with fuse := -1, down := false }
theorem crashTo_len (m : PM) (x k : Nat) : (m.crashTo x k).list.length = m.list.length := by
  induction k with
  | zero => rfl
  | succ k ih => simp [PM.crashTo, PM.setD, ih]
theorem setD_get (m : PM) (i j : Nat) (d : DM) : (m.setD i d).get j = if i = j ∧ j < m.list.length then d else m.get j := by
  unfold PM.get PM.setD; exact getD_set _ _ _ _ _
theorem crashTo_get (m : PM) (x k j : Nat) (hk : k ≤ m.list.length) : (m.crashTo x k).get j = if j < k then (m.get j).keep (crashSel (rotN x (turnS j))) else m.get j := by
  induction k with
  | zero => simp [PM.crashTo]
  | succ k ih =>
    rw [PM.crashTo, setD_get, crashTo_len, ih (by omega)]
    by_cases e : k = j
    · subst e
      rw [if_pos ⟨rfl, by omega⟩, if_pos (by omega)]
      have := ih (by omega)
      rw [if_neg (by omega)] at this
      rw [this]
    · rw [if_neg (by omega)]
      by_cases h : j < k
      · rw [if_pos h, if_pos (by omega)]
      · rw [if_neg h, if_neg (by omega)]

theorem crash_nil (x : Value) (w : World) : Calls Try.prog 28 #[.pointer none, x] w fun e w' => e = .returned (.tuple #[]) ∧ w = w' := by
  go_enter Try.func28, Try.ntmps28
  go_wp2
  exact bodyPost_ret (results_none rfl _ _ _) rfl ⟨rfl, rfl⟩

def CrashI (w : World) (F : Nat → Prop) (pb : Nat) (lv : Value) (dbs : List Nat) (m : PM) (x k : Nat) (wr : World) : Prop :=
  ∃ F' G', (∀ b, F' b → F b ∨ w.heap.size ≤ b) ∧ PoolIn wr F' pb lv dbs G' (m.crashTo x k) ∧ Mod F w wr

set_option maxHeartbeats 1000000 in
set_option maxRecDepth 100000 in
theorem pool_crash {w : World} {F : Nat → Prop} {pb : Nat} {m : PM} (h : PoolAt w F pb m) (hk : m.calm) (x : Nat) (hx : x ≤ 18446744073709551615) :
    Calls Try.prog 28 #[.pointer (some ⟨pb, 0, none⟩), .int .u64 x] w fun e w' => e = .returned (.tuple #[]) ∧ PStep w F pb (m.crash x) w' := by
  obtain ⟨lv, dbs, G, h⟩ := h
  have hFh := Lib.hid h.here
  have hfp := h.fpb
  have hfew := h.few
  obtain ⟨ao, ln, cap, rfl⟩ := own_shape h.own
  obtain rfl := own_len h.own
  have h0 : w.cell? ⟨pb, 0, none⟩ = some _ := blk_cell h.blk rfl
  have HH := Lib.hid h
  have HK := Lib.hid hk
  have HX := Lib.hid hx
  clear h hk hx
  go_enter Try.func28, Try.ntmps28
  go_wp2
  go_loopw [13] (fun i wr => ∃ k : Nat, k ≤ m.list.length ∧ i = .int .i64 k ∧ CrashI w F pb (.slice ao m.list.length cap) dbs m x k wr)
    (fun i _ => m.list.length - (intOf i).toNat)
  case atStart => exact ⟨0, by omega, rfl, F, G, fun b hb => .inl hb, HH.out, Mod.refl _ _⟩
  case round =>
    obtain ⟨k, hkc, rfl, F', G', hF', hP, hm⟩ := hrel
    have elen := crashTo_len m x k
    by_cases hlt : k < m.list.length
    · have hi1 : k < (m.crashTo x k).list.length := by rw [elen]; exact hlt
      obtain ⟨ao', cap', ob, e1, rfl, hcell⟩ := hP.cell k hi1
      injection e1 with e1 e2 e3
      subst e1
      have hat := hP.at_ k hi1
      have hdr := drive_crash hat (rotN x (turnS k)) (rotN_le _ _ HX.out) (by
        have := HK.out k hlt
        change ((m.crashTo x k).get k).loose.length ≤ _
        rw [crashTo_get m x k k (by omega), if_neg (by omega)]; exact this)
      have hd := fun d' w' => hP.drive2 k hi1 d' (w' := w')
      have hrot := rot_any x HX.out k (by omega)
      have HD := Lib.hid hd; have HDR := Lib.hid hdr; have HM := Lib.hid hm; have HF' := Lib.hid hF'
      clear hd hdr hP hat hm hF' elen e2 e3 hi1
      go_wp2_with (go_at_call 74; refine (hrot _).mono ?_; rintro e w1 ⟨rfl, rfl⟩)
      refine HDR.out.mono ?_
      rintro e w1 ⟨rfl, hs⟩
      obtain ⟨hm2, hP2⟩ := HD.out _ _ hs
      have hI : CrashI w F pb (.slice (some ⟨ob, 0, none⟩) m.list.length cap) dbs m x (k + 1) w1 := by
        have hsz := HM.out.size
        refine ⟨_, _, fun b hb => ?_, hP2, HM.out.then hm2 fun i hi h => ?_⟩
        · rcases hb with hb | hb
          · exact HF'.out b hb
          · exact .inr (by omega)
        · rcases HF'.out i h with h | h
          · exact h
          · omega
      have HI := Lib.hid hI
      clear hs hm2 hP2 hI
      go_wp2
      go_roundw
      case rel => exact ⟨k + 1, by omega, by go_num, HI.out⟩
      case measure => simp [intOf]; omega
    · obtain rfl : k = m.list.length := by omega
      have hb0 := hP.blk
      have h1 : wr.cell? ⟨pb, 1, none⟩ = some _ := blk_cell hP.blk rfl
      have h2 : wr.cell? ⟨pb, 2, none⟩ = some _ := blk_cell hP.blk rfl
      have f1 := blk_free hP.blk 1
      have f2 := blk_free hP.blk 2
      have HB := Lib.hid hb0
      have HP := Lib.hid hP
      clear hb0 hP
      go_wp2
      go_end0
      refine ⟨rfl, ?_⟩
      have hmm : Mod (fun b => b = pb) wr ((wr.setCell ⟨pb, 1, none⟩ (.int .i64 (-1))).setCell ⟨pb, 2, none⟩ (.bool false)) :=
        ((Mod.refl (fun b => b = pb) wr).setCell (p := ⟨pb, 1, none⟩) (fun _ => rfl) _).setCell (p := ⟨pb, 2, none⟩) (fun _ => rfl) _
      have hbb := blk_set (blk_set HB.out 1 (.int .i64 (-1))) 2 (.bool false)
      have hPP := HP.out.head hmm (-1) false hbb (by decide) (by decide)
      have hsz := hm.size
      have hmF := hm.trans (hmm.mono (T := F) fun _ _ e => e ▸ hfp)
      have hE : ∀ b, F' b → Ext F w ((wr.setCell ⟨pb, 1, none⟩ (.int .i64 (-1))).setCell ⟨pb, 2, none⟩ (.bool false)) b := fun b hb => by
        rcases hF' b hb with h | h
        · exact .inl h
        · exact .inr ⟨h, hPP.here b hb⟩
      exact ⟨hmF, _, dbs, G', { hPP with
        here := Ext.here hFh.out hmF.size
        fpb := hE _ hPP.fpb
        ownF := fun g hg => ⟨hE _ (hPP.ownF g hg).1, (hPP.ownF g hg).2⟩
        sub := fun i b hb => ⟨hE _ (hPP.sub i b hb).1, (hPP.sub i b hb).2⟩ }⟩
end Go.Proofs.Fl

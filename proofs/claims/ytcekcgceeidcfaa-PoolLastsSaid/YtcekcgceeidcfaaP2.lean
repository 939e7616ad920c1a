import Derived.Test.YtcekcgceeidcfaaP1
namespace Go.Proofs.Fl
open Go.RowKit

theorem PoolIn.head {w w' : World} {F : Nat → Prop} {pb : Nat} {lv : Value} {dbs : List Nat} {G : Nat → Nat → Prop} {m : PM} (h : PoolIn w F pb lv dbs G m) (hm : Mod (fun b => b = pb) w w') (f : Int) (d : Bool)
    (hb : w'.heap[pb]? = some (.cells #[lv, .int .i64 f, .bool d] tPool (0, 0))) (hf1 : -1 ≤ f) (hf2 : f ≤ 9223372036854775807) : PoolIn w' F pb lv dbs G { m with fuse := f, down := d } where
  here := fun b hb => Nat.lt_of_lt_of_le (h.here b hb) hm.size
  blk := hb
  fpb := h.fpb
  own := own_mod h.own hm fun g hg => (h.ownF g hg).2.1
  ownF := h.ownF
  len := h.len
  at_ := fun i hi => (h.at_ i hi).kept hm fun b hb => (h.sub i b hb).2
  sub := h.sub
  apart := h.apart
  few := h.few
  fuse1 := hf1
  fuse2 := hf2
theorem PoolIn.ext {w' : World} {F : Nat → Prop} {pb : Nat} {lv : Value} {dbs : List Nat} {G : Nat → Nat → Prop} {m : PM} (h : PoolIn w' F pb lv dbs G m) (w0 : World) : PoolIn w' (Ext F w0 w') pb lv dbs G m :=
  { h with
    here := fun b hb => by
      rcases hb with hb | hb
      · exact h.here b hb
      · exact hb.2
    fpb := .inl h.fpb
    ownF := fun g hg => ⟨.inl (h.ownF g hg).1, (h.ownF g hg).2⟩
    sub := fun i b hb => ⟨.inl (h.sub i b hb).1, (h.sub i b hb).2⟩ }
theorem PoolIn.step {w w' : World} {F : Nat → Prop} {pb : Nat} {lv : Value} {dbs : List Nat} {G : Nat → Nat → Prop} {m : PM} (h : PoolIn w F pb lv dbs G m) (hm : Mod (fun b => b = pb) w w') (f : Int) (d : Bool)
    (hb : w'.heap[pb]? = some (.cells #[lv, .int .i64 f, .bool d] tPool (0, 0))) (hf1 : -1 ≤ f) (hf2 : f ≤ 9223372036854775807) : PStep w F pb { m with fuse := f, down := d } w' :=
  ⟨hm.mono fun _ _ e => e ▸ h.fpb, lv, dbs, G, (h.head hm f d hb hf1 hf2).ext w⟩

def PM.burn (m : PM) : Bool × PM :=
  if m.down = true ∨ m.fuse = 0 then (false, { m with down := true }) else if 0 < m.fuse then (true, { m with fuse := m.fuse - 1 }) else (true, m)

def BurnP (pb : Nat) (lv : Value) (f : Int) (d : Bool) (w w' : World) : Prop := Mod (fun b => b = pb) w w' ∧ w'.heap[pb]? = some (.cells #[lv, .int .i64 f, .bool d] tPool (0, 0))

set_option maxHeartbeats 400000 in
set_option maxRecDepth 100000 in
theorem burn_walk (pb : Nat) (lv : Value) (f : Int) (d : Bool) (w : World) (hb : w.heap[pb]? = some (.cells #[lv, .int .i64 f, .bool d] tPool (0, 0))) (hf1 : -1 ≤ f) (hf2 : f ≤ 9223372036854775807) :
    Calls Try.prog 69 #[.pointer (some ⟨pb, 0, none⟩)] w fun e w' => e = .returned (.bool (!(d || f == 0))) ∧ BurnP pb lv (if d || f == 0 then f else if 0 < f then f - 1 else f) (d || f == 0) w w' := by
  have h1 : w.cell? ⟨pb, 1, none⟩ = some (.int .i64 f) := blk_cell hb rfl
  have h2 : w.cell? ⟨pb, 2, none⟩ = some (.bool d) := blk_cell hb rfl
  have f1 := blk_free hb 1
  have f2 := blk_free hb 2
  have HB := Lib.hid hb; clear hb
  cases d with
  | true =>
    simp only [Bool.true_or, if_true, Bool.not_true]
    go_enter Try.func69, Try.ntmps69
    go_wp2
    go_ret
    exact ⟨rfl, (Mod.refl (fun b => b = pb) w).setCell (p := ⟨pb, 2, none⟩) (fun _ => rfl) _, blk_set HB.out 2 _⟩
  | false =>
    by_cases h0 : f = 0
    · subst h0
      simp only [beq_self_eq_true, Bool.or_true, if_true, Bool.not_true]
      go_enter Try.func69, Try.ntmps69
      go_wp2
      go_ret
      exact ⟨rfl, (Mod.refl (fun b => b = pb) w).setCell (p := ⟨pb, 2, none⟩) (fun _ => rfl) _, blk_set HB.out 2 _⟩
    · have h0' : (f == 0) = false := by simpa using h0
      simp only [h0', Bool.or_false, Bool.false_eq_true, if_false, Bool.not_false]
      by_cases hp : 0 < f
      · rw [if_pos hp]
        go_enter Try.func69, Try.ntmps69
        go_wp2
        go_ret
        exact ⟨rfl, (Mod.refl (fun b => b = pb) w).setCell (p := ⟨pb, 1, none⟩) (fun _ => rfl) _, blk_set HB.out 1 _⟩
      · rw [if_neg hp]
        have HF := Lib.hid hf2; clear hf2
        go_enter Try.func69, Try.ntmps69
        go_wp2
        go_ret
        exact ⟨rfl, Mod.refl _ _, HB.out⟩

theorem pool_burn {w : World} {F : Nat → Prop} {pb : Nat} {lv : Value} {dbs : List Nat} {G : Nat → Nat → Prop} {m : PM} (h : PoolIn w F pb lv dbs G m) :
    Calls Try.prog 69 #[.pointer (some ⟨pb, 0, none⟩)] w fun e w' => e = .returned (.bool m.burn.1) ∧ Mod (fun b => b = pb) w w' ∧ PoolIn w' F pb lv dbs G m.burn.2 := by
  refine (burn_walk pb lv m.fuse m.down w h.blk h.fuse1 h.fuse2).mono ?_
  rintro e w' ⟨rfl, hm, hb⟩
  have h1 := h.fuse1; have h2 := h.fuse2
  unfold PM.burn
  cases hd : m.down with
  | true =>
    simp only [hd, Bool.true_or, if_true, Bool.not_true] at hb ⊢
    rw [if_pos (.inl trivial)]
    exact ⟨rfl, hm, h.head hm _ _ hb h1 h2⟩
  | false =>
    by_cases h0 : m.fuse = 0
    · simp only [hd, h0, beq_self_eq_true, Bool.or_true, if_true, Bool.not_true] at hb ⊢
      rw [if_pos (.inr trivial)]
      exact ⟨rfl, hm, h.head hm _ _ hb (by omega) (by omega)⟩
    · have h0' : (m.fuse == 0) = false := by simpa using h0
      simp only [hd, h0', Bool.or_false, Bool.false_eq_true, if_false, Bool.not_false] at hb ⊢
      rw [if_neg (by simp [h0])]
      by_cases hp : 0 < m.fuse
      · rw [if_pos hp] at hb ⊢
        have := h.head hm _ _ hb (by omega) (by omega)
        exact ⟨rfl, hm, this⟩
      · rw [if_neg hp] at hb ⊢
        have := h.head hm _ _ hb h1 h2
        rw [← hd] at this
        exact ⟨rfl, hm, this⟩

set_option maxHeartbeats 400000 in
set_option maxRecDepth 100000 in
theorem fuse_nil (n : Int) (w : World) : Calls Try.prog 24 #[.pointer none, .int .i64 n] w fun e w' => e = .returned (.tuple #[]) ∧ w = w' := by
  go_enter Try.func24, Try.ntmps24
  go_wp2
  go_end0
  exact ⟨rfl, rfl⟩

set_option maxHeartbeats 400000 in
set_option maxRecDepth 100000 in
theorem pool_fuse {w : World} {F : Nat → Prop} {pb : Nat} {m : PM} (h : PoolAt w F pb m) (n : Int) (hn : n ≤ 9223372036854775807) :
    Calls Try.prog 24 #[.pointer (some ⟨pb, 0, none⟩), .int .i64 n] w fun e w' => e = .returned (.tuple #[]) ∧ PStep w F pb { m with fuse := if 0 ≤ n then n else 0 } w' := by
  obtain ⟨lv, dbs, G, h⟩ := h
  have h1 : w.cell? ⟨pb, 1, none⟩ = some (.int .i64 m.fuse) := blk_cell h.blk rfl
  have f1 := blk_free h.blk 1
  have H := Lib.hid h; clear h
  have HN := Lib.hid hn; clear hn
  by_cases h0 : 0 ≤ n
  · rw [if_pos h0]
    go_enter Try.func24, Try.ntmps24
    go_wp2
    go_end0
    exact ⟨rfl, H.out.step ((Mod.refl (fun b => b = pb) w).setCell (p := ⟨pb, 1, none⟩) (fun _ => rfl) _) _ _ (blk_set H.out.blk 1 _) (by omega) HN.out⟩
  · rw [if_neg h0]
    go_enter Try.func24, Try.ntmps24
    go_wp2
    go_end0
    exact ⟨rfl, H.out.step ((Mod.refl (fun b => b = pb) w).setCell (p := ⟨pb, 1, none⟩) (fun _ => rfl) _) _ _ (blk_set H.out.blk 1 _) (by omega) (by omega)⟩

/-! usable -/
def PM.use (m : PM) (n : Int) : Nat := if 0 ≤ n ∧ n < m.list.length then (if (m.list.getD n.toNat dNone).lost then 8 else 0) else 1

set_option maxHeartbeats 400000 in
set_option maxRecDepth 100000 in
theorem usable_nil (n : Int) (w : World) : Calls Try.prog 61 #[.pointer none, .int .i64 n] w fun e w' => e = .returned (.int .i64 1) ∧ w = w' := by
  go_enter Try.func61, Try.ntmps61
  go_wp2_with (go_at_call 30; refine (drive_of_nil _ _).mono ?_; rintro e w1 ⟨rfl, rfl⟩)
  go_ret
  exact ⟨rfl, rfl⟩

set_option maxHeartbeats 400000 in
set_option maxRecDepth 100000 in
theorem pool_usable {w : World} {F : Nat → Prop} {pb : Nat} {m : PM} (h : PoolAt w F pb m) (n : Int) :
    Calls Try.prog 61 #[.pointer (some ⟨pb, 0, none⟩), .int .i64 n] w fun e w' => e = .returned (.int .i64 (m.use n)) ∧ w = w' := by
  obtain ⟨lv, dbs, G, h⟩ := h
  have hdr := drive_of h n
  unfold PM.use
  unfold ptrOf at hdr
  rw [h.len] at hdr
  by_cases hc : 0 ≤ n ∧ n < m.list.length
  · rw [if_pos hc] at hdr ⊢
    have hat := h.at_ n.toNat (by omega)
    have hl := drive_lost hat
    generalize (m.list.getD n.toNat dNone).lost = x at hl
    generalize dbs.getD n.toNat 0 = db at hl hdr
    have H := Lib.hid h; clear h hat hc
    cases x
    all_goals
      go_enter Try.func61, Try.ntmps61
      go_wp2_with (first | (go_at_call 30; refine hdr.mono ?_; rintro e w1 ⟨rfl, rfl⟩) | (go_at_call 98; refine hl.mono ?_; rintro e w1 ⟨rfl, rfl⟩))
      go_ret
      exact ⟨rfl, rfl⟩
  · rw [if_neg hc] at hdr ⊢
    have H := Lib.hid h; clear h hc
    go_enter Try.func61, Try.ntmps61
    go_wp2_with (go_at_call 30; refine hdr.mono ?_; rintro e w1 ⟨rfl, rfl⟩)
    go_ret
    exact ⟨rfl, rfl⟩
end Go.Proofs.Fl

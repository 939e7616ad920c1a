import Derived.Test.YtcekcgceeidcfaaP9
namespace Go.Proofs.Fl
open Go.RowKit

set_option maxHeartbeats 1000000 in
set_option maxRecDepth 100000 in
theorem pool_erase {w : World} {F : Nat → Prop} {pb : Nat} {m : PM} (h : PoolAt w F pb m) (hk : m.calm) (n S K : Int) :
    Calls Try.prog 21 #[.pointer (some ⟨pb, 0, none⟩), .int .i64 n, .int .i64 S, .int .i64 K] w fun e w' => e = .returned (.int .i64 (m.erase n S K).1) ∧ PStep w F pb (m.erase n S K).2 w' := by
  have hus := pool_usable h n
  have hl : ∀ x, m.use n = x → x ≠ 0 → m.erase n S K = (x, m) := fun x hx h0 => by unfold PM.erase; rw [hx, if_pos h0]
  rcases use_cases m n with hu | hu | ⟨hu, i, rfl, hi, hlive⟩
  · rw [hu] at hus; rw [hl 1 hu (by decide)]
    refine (erase_bad _ n S K 1 (.inl rfl) w hus).mono ?_
    rintro e w' ⟨rfl, rfl⟩
    obtain ⟨lv, dbs, G, h⟩ := h
    exact ⟨rfl, h.pstep (Below.refl _ _)⟩
  · rw [hu] at hus; rw [hl 8 hu (by decide)]
    refine (erase_bad _ n S K 8 (.inr rfl) w hus).mono ?_
    rintro e w' ⟨rfl, rfl⟩
    obtain ⟨lv, dbs, G, h⟩ := h
    exact ⟨rfl, h.pstep (Below.refl _ _)⟩
  · rw [hu] at hus
    obtain ⟨lv, dbs, G, h⟩ := h
    have hfi := pool_find h i hi (hk i hi) S K
    change Calls Try.prog 62 _ w fun e w' => e = .returned (.int .i64 (idxV ((m.get i).find S K))) ∧ Below w.heap.size w w' at hfi
    have el : m.erase i S K = match (m.get i).find S K with | none => (7, m) | some j => m.write i j [] := by
      unfold PM.erase; rw [if_neg (by simp [hu])]; rfl
    rw [el]
    have hFh := Lib.hid h.here
    have HH := Lib.hid h; have HI := Lib.hid hi; have HK := Lib.hid hk
    clear el hl hlive hu h hi hk
    cases hf : (m.get i).find S K with
    | none =>
      rw [hf] at hfi
      have HF := Lib.hid hfi
      clear hf hfi
      go_enter Try.func21, Try.ntmps21
      go_wp2_with (first | (go_at_call 61; refine hus.mono ?_; rintro e w1 ⟨rfl, rfl⟩) | (go_at_call 62; refine HF.out.mono ?_; rintro e w1 ⟨rfl, hb1⟩; simp only [idxV]))
      go_ret
      exact ⟨rfl, HH.out.pstep hb1⟩
    | some j =>
      have hjc := find_lt hf
      rw [hf] at hfi
      have HF := Lib.hid hfi
      clear hf hfi
      have hj0 : ¬ ((j : Int) < 0) := by omega
      go_enter Try.func21, Try.ntmps21
      go_wp2_with (first | (go_at_call 61; refine hus.mono ?_; rintro e w1 ⟨rfl, rfl⟩) | (go_at_call 62; refine HF.out.mono ?_; rintro e w1 ⟨rfl, hb1⟩; simp only [idxV]))
      have hw := pool_write (HH.out.kept (Mod.of_below (fun _ => False) hb1) fun _ _ => id) i j HI.out hjc (HK.out i HI.out) (Bs.nil w1 (fun _ => False)) (fun _ h => h.elim) (by simp)
      refine hw.mono ?_
      rintro e w2 ⟨rfl, hs⟩
      have R := Lib.hid (PStep.of hFh.out (Mod.of_below F hb1) hs)
      clear hs hw
      go_wp2
      go_ret
      exact ⟨rfl, R.out⟩

set_option maxHeartbeats 1000000 in
set_option maxRecDepth 100000 in
theorem pool_flush {w : World} {F : Nat → Prop} {pb : Nat} {m : PM} (h : PoolAt w F pb m) (hk : m.calm) (n : Int) :
    Calls Try.prog 26 #[.pointer (some ⟨pb, 0, none⟩), .int .i64 n] w fun e w' => e = .returned (.int .i64 (m.flush n).1) ∧ PStep w F pb (m.flush n).2 w' := by
  have hus := pool_usable h n
  have hl : ∀ x, m.use n = x → x ≠ 0 → m.flush n = (x, m) := fun x hx h0 => by unfold PM.flush; rw [hx, if_pos h0]
  rcases use_cases m n with hu | hu | ⟨hu, i, rfl, hi, hlive⟩
  · rw [hu] at hus; rw [hl 1 hu (by decide)]
    refine (flush_bad _ n 1 (.inl rfl) w hus).mono ?_
    rintro e w' ⟨rfl, rfl⟩
    obtain ⟨lv, dbs, G, h⟩ := h
    exact ⟨rfl, h.pstep (Below.refl _ _)⟩
  · rw [hu] at hus; rw [hl 8 hu (by decide)]
    refine (flush_bad _ n 8 (.inr rfl) w hus).mono ?_
    rintro e w' ⟨rfl, rfl⟩
    obtain ⟨lv, dbs, G, h⟩ := h
    exact ⟨rfl, h.pstep (Below.refl _ _)⟩
  · rw [hu] at hus
    obtain ⟨lv, dbs, G, h⟩ := h
    have el : m.flush i = if m.burn.1 then (0, m.burn.2.setD i ((m.get i).keep fun _ => true)) else (9, m.burn.2) := by
      unfold PM.flush; rw [if_neg (by simp [hu])]; rfl
    rw [el]
    have hbu := pool_burn h
    have hFh := Lib.hid h.here
    have hfp := h.fpb
    have hki := hk i hi
    clear el hl hu hk h
    cases hbn : m.burn.1 with
    | false =>
      rw [hbn] at hbu
      simp only [Bool.false_eq_true, if_false]
      clear hbn
      go_enter Try.func26, Try.ntmps26
      go_wp2_with (first | (go_at_call 61; refine hus.mono ?_; rintro e w1 ⟨rfl, rfl⟩) | (go_at_call 69; refine hbu.mono ?_; rintro e w1 ⟨rfl, hm, h1⟩; have R := Lib.hid (PStep.same h1 (hm.mono (T := F) fun k _ e => e ▸ hfp)); clear hbu h1 hm))
      go_ret
      exact ⟨rfl, R.out⟩
    | true =>
      rw [hbn] at hbu
      simp only [if_true]
      clear hbn
      go_enter Try.func26, Try.ntmps26
      go_wp2_with (first | (go_at_call 61; refine hus.mono ?_; rintro e w1 ⟨rfl, rfl⟩))
      refine hbu.mono ?_
      rintro e w1 ⟨rfl, hm, h1⟩
      have hi1 : i < m.burn.2.list.length := by rw [burn_list]; exact hi
      obtain ⟨ao, cap, ob, rfl, rfl, hcell⟩ := h1.cell i hi1
      have h0 : w1.cell? ⟨pb, 0, none⟩ = some _ := blk_cell h1.blk rfl
      have hat := h1.at_ i hi1
      have eg : m.burn.2.list.getD i dNone = m.get i := burn_get m i
      rw [eg] at hat
      have hd := fun d' w' => h1.drive i hi1 d' (w' := w')
      have hmF : Mod F w w1 := hm.mono fun k _ e => e ▸ hfp
      have hi1' : (i : Int) < (m.burn.2.list.length : Int) := by omega
      have hp := drive_flush hat hlive hki
      have HD := Lib.hid hd; have HP := Lib.hid hp; have HM := Lib.hid hmF
      clear hd hp hmF h1 hat hm eg hbu hlive
      go_wp2_with (fail)
      refine HP.out.mono ?_
      rintro e w2 ⟨rfl, hs⟩
      have R := Lib.hid (PStep.of hFh.out HM.out (HD.out _ _ hs))
      clear hs
      go_wp2
      go_ret
      exact ⟨rfl, R.out⟩

/-! Held, Free -/
/-- v is a slice of the pairs l. -/
def Prs (w : World) (S : Nat → Prop) (v : Value) (l : List (Nat × Nat)) : Prop :=
  ∃ ao c, v = .slice ao l.length c ∧ (0 < l.length → ∃ b, ao = some ⟨b, 0, none⟩ ∧ S b ∧ b < w.heap.size ∧
    ∀ j, j < l.length → w.cell? ⟨b, j * 2, none⟩ = some (.int .i64 ((l.getD j (0, 0)).1 : Int)) ∧ w.cell? ⟨b, j * 2 + 1, none⟩ = some (.int .i64 ((l.getD j (0, 0)).2 : Int)))
def PM.held (m : PM) (n : Int) : List (Nat × Nat) := if 0 ≤ n ∧ n < m.list.length then (m.get n.toNat).held else []
def PM.free (m : PM) (n : Int) : Int := if 0 ≤ n ∧ n < m.list.length then (m.get n.toNat).cap - (m.get n.toNat).held.length else 0

theorem hcells_at (ws : List (Nat × Nat)) (k : Nat) (h : k < ws.length) : (hcells ws)[k * 2]? = some (.int .i64 ((ws.getD k (0, 0)).1 : Int)) ∧ (hcells ws)[k * 2 + 1]? = some (.int .i64 ((ws.getD k (0, 0)).2 : Int)) := by
  induction ws generalizing k with
  | nil => simp at h
  | cons p ws ih =>
    cases k with
    | zero => simp [hcells]
    | succ k =>
      have := ih k (by simpa using h)
      have e1 : (k + 1) * 2 = k * 2 + 1 + 1 := by omega
      simp only [hcells, List.flatMap_cons, List.cons_append, List.nil_append, e1, List.getElem?_cons_succ, List.getD_cons_succ] at this ⊢
      exact this
theorem Prs.of_own {w : World} {base : Nat} {v : Value} {l : List (Nat × Nat)} (h : w.ownsRow base 99 2 v l.length (hcells l)) (S : Nat → Prop) (hS : ∀ g, v.ownBlock = some g → S g) : Prs w S v l := by
  obtain ⟨oa, m, c, rfl⟩ := own_shape h
  have hm := own_len h
  subst hm
  refine ⟨oa, c, rfl, fun h0 => ?_⟩
  rcases h.2 with ⟨h1, h2⟩ | ⟨g, cap, cur, h1, _⟩
  · omega
  · injection h1 with e1 _ _
    subst e1
    refine ⟨g, rfl, hS g rfl, (h.lt g rfl).2, fun j hj => ?_⟩
    have ha : ∀ i, (⟨g, 0, none⟩ : Addr).add i = ⟨g, i, none⟩ := fun i => by unfold Addr.add; split <;> simp_all
    have hc := hcells_at l j hj
    have c1 := h.cells (g := g) rfl _ _ hc.1
    have c2 := h.cells (g := g) rfl _ _ hc.2
    rw [ha] at c1 c2
    exact ⟨c1, c2⟩

def HeldV (w : World) (l : List (Nat × Nat)) (e : Ending) (w' : World) : Prop := ∃ v, e = .returned v ∧ Prs w' (Fresh w) v l ∧ Below w.heap.size w w'

set_option maxHeartbeats 1000000 in
set_option maxRecDepth 100000 in
theorem held_none (pv : Value) (n : Int) (w : World) (h30 : Calls Try.prog 30 #[pv, .int .i64 n] (w.alloc (.cells #[.slice none 0 0] 34)) fun e w' => e = .returned (.pointer none) ∧ (w.alloc (.cells #[.slice none 0 0] 34)) = w') : Calls Try.prog 25 #[pv, .int .i64 n] w (HeldV w []) := by
  have hE := fun fv => each_nil pv fv n _ h30
  have hc : (w.alloc (.cells #[.slice none 0 0] 34)).cell? ⟨w.heap.size, 0, none⟩ = some (.slice none 0 0) := by rw [World.cell?_alloc_new]; rfl
  go_enter Try.func25, Try.ntmps25
  go_wp2_with (go_at_call 63; refine (hE _).mono ?_; rintro e w1 ⟨rfl, rfl⟩)
  go_ret
  exact ⟨_, rfl, ⟨none, 0, rfl, by simp⟩, (Below.refl _ _).alloc (Nat.le_refl _) _⟩

set_option maxHeartbeats 1000000 in
set_option maxRecDepth 100000 in
theorem held_some {w : World} {F : Nat → Prop} {pb : Nat} {lv : Value} {dbs : List Nat} {G : Nat → Nat → Prop} {m : PM} (h : PoolIn w F pb lv dbs G m) (i : Nat) (hi : i < m.list.length) (hk : (m.get i).loose.length ≤ 1000000000) :
    Calls Try.prog 25 #[.pointer (some ⟨pb, 0, none⟩), .int .i64 i] w (HeldV w (m.get i).held) := by
  have hb1 : Below w.heap.size w (w.alloc (.cells #[.slice none 0 0] 34)) := (Below.refl _ _).alloc (Nat.le_refl _) _
  have h1 := h.kept (Mod.of_below (fun _ => False) hb1) fun _ _ => id
  have hat := h1.at_ i hi
  have he := each_held _ i _ _ _ _ w.heap.size (h1.sel i hi) hat hk hat.get_le hat.cap_le (heap_alloc_new w _) (fun hb => by have := h.here _ (h.sub i _ hb).1; omega)
  have HE := Lib.hid he
  clear he hat h1 h hk hb1
  go_enter Try.func25, Try.ntmps25
  go_wp2_with (fail)
  refine HE.out.mono ?_
  rintro e w1 ⟨rfl, ov, q1, q2, q3, q4⟩
  have hc : w1.cell? ⟨w.heap.size, 0, none⟩ = some ov := blk_cell q1 rfl
  have hsz := q3.size
  rw [World.size_alloc] at hsz
  obtain ⟨oa, on_, oc, rfl⟩ := own_shape q2
  have hbel : Below w.heap.size w w1 := ⟨q3.os, q3.tape, q3.output, by omega, fun k hk => (q3.block k (by simp; omega) (by omega)).trans (Below.heap_alloc w _ k hk)⟩
  have hP : Prs w1 (Fresh w) (.slice oa on_ oc) (m.get i).held := Prs.of_own q2 _ fun g hg => by
    have := q4 g hg; simp only [World.size_alloc] at this; simp only [Fresh]; omega
  have R := Lib.hid (And.intro hP hbel)
  clear q1 q2 q3 q4 hP hbel
  go_wp2
  go_ret
  exact ⟨_, rfl, R.out.1, R.out.2⟩

theorem pool_held {w : World} {F : Nat → Prop} {pb : Nat} {m : PM} (h : PoolAt w F pb m) (hk : m.calm) (n : Int) : Calls Try.prog 25 #[.pointer (some ⟨pb, 0, none⟩), .int .i64 n] w (HeldV w (m.held n)) := by
  obtain ⟨lv, dbs, G, h⟩ := h
  unfold PM.held
  by_cases hn : 0 ≤ n ∧ n < m.list.length
  · rw [if_pos hn]
    obtain ⟨i, rfl⟩ : ∃ i : Nat, n = i := ⟨n.toNat, by omega⟩
    exact held_some h i (by omega) (hk i (by omega))
  · rw [if_neg hn]
    exact held_none _ n w ((h.kept (Mod.of_below (fun _ => False) ((Below.refl _ _).alloc (Nat.le_refl _) _)) fun _ _ => id).nosel n hn)
theorem held_nil (n : Int) (w : World) : Calls Try.prog 25 #[.pointer none, .int .i64 n] w (HeldV w []) := held_none _ n w (drive_of_nil n _)

theorem held_le (d : DM) : d.held.length ≤ d.cap := heldTo_le d d.cap

set_option maxHeartbeats 1000000 in
set_option maxRecDepth 100000 in
theorem free_nil (n : Int) (w : World) : Calls Try.prog 23 #[.pointer none, .int .i64 n] w fun e w' => e = .returned (.int .i64 0) ∧ Below w.heap.size w w' := by
  go_enter Try.func23, Try.ntmps23
  go_wp2_with (first | (go_at_call 30; refine (drive_of_nil _ _).mono ?_; rintro e w1 ⟨rfl, rfl⟩) | (go_at_call 67; refine (cap_nil _).mono ?_; rintro e w1 ⟨rfl, rfl⟩))
  refine (held_nil n w).mono ?_
  rintro e w1 ⟨v, rfl, ⟨ao, c, rfl, _⟩, hb⟩
  go_wp2
  go_ret
  exact ⟨rfl, hb⟩

set_option maxHeartbeats 1000000 in
set_option maxRecDepth 100000 in
theorem pool_free {w : World} {F : Nat → Prop} {pb : Nat} {m : PM} (h : PoolAt w F pb m) (hk : m.calm) (n : Int) :
    Calls Try.prog 23 #[.pointer (some ⟨pb, 0, none⟩), .int .i64 n] w fun e w' => e = .returned (.int .i64 (m.free n)) ∧ Below w.heap.size w w' := by
  have hh := pool_held h hk n
  obtain ⟨lv, dbs, G, h⟩ := h
  unfold PM.free
  unfold PM.held at hh
  by_cases hn : 0 ≤ n ∧ n < m.list.length
  · rw [if_pos hn]
    rw [if_pos hn] at hh
    obtain ⟨i, rfl⟩ : ∃ i : Nat, n = i := ⟨n.toNat, by omega⟩
    have e : ((i : Int)).toNat = i := rfl
    rw [e] at hh ⊢
    have hi : i < m.list.length := by omega
    have h30 := h.sel i hi
    have hcp := drive_cap (h.at_ i hi)
    change Calls Try.prog 67 _ w fun e w' => e = .returned (.int .i64 ((m.get i).cap)) ∧ w = w' at hcp
    have hle := held_le (m.get i)
    have hc2 := (h.at_ i hi).cap_le
    change (m.get i).cap ≤ 128 at hc2
    generalize m.get i = d at hh hcp hle hc2 ⊢
    clear h hk hn e
    generalize d.held = hl at hh hle ⊢
    generalize d.cap = dc at hcp hle hc2 ⊢
    go_enter Try.func23, Try.ntmps23
    go_wp2_with (first | (go_at_call 30; refine h30.mono ?_; rintro e w1 ⟨rfl, rfl⟩) | (go_at_call 67; refine hcp.mono ?_; rintro e w1 ⟨rfl, rfl⟩))
    refine hh.mono ?_
    rintro e w1 ⟨v, rfl, ⟨ao, c, rfl, _⟩, hb⟩
    go_wp2
    go_ret
    exact ⟨rfl, hb⟩
  · rw [if_neg hn]
    rw [if_neg hn] at hh
    have h30 := h.nosel n hn
    clear h hk hn
    go_enter Try.func23, Try.ntmps23
    go_wp2_with (first | (go_at_call 30; refine h30.mono ?_; rintro e w1 ⟨rfl, rfl⟩) | (go_at_call 67; refine (cap_nil _).mono ?_; rintro e w1 ⟨rfl, rfl⟩))
    refine hh.mono ?_
    rintro e w1 ⟨v, rfl, ⟨ao, c, rfl, _⟩, hb⟩
    go_wp2
    go_ret
    exact ⟨rfl, hb⟩
end Go.Proofs.Fl

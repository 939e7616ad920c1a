import Derived.Test.YtcekcgceeidcfaaP7
namespace Go.Proofs.Fl
open Go.RowKit

theorem frame_len (s p : Nat) (b : Bytes) : (frame s p b).length ≤ 60 := by
  unfold frame frameHead
  simp
  omega

theorem pool_free1 {w : World} {F : Nat → Prop} {pb : Nat} {lv : Value} {dbs : List Nat} {G : Nat → Nat → Prop} {m : PM} (h : PoolIn w F pb lv dbs G m) (i : Nat) (hi : i < m.list.length) (hk : (m.get i).loose.length ≤ 1000000000) :
    Calls Try.prog 63 #[.pointer (some ⟨pb, 0, none⟩), .int .i64 i, .func (.func 64) #[] #[]] w fun e w' => e = .returned (.int .i64 (idxV (m.get i).free1)) ∧ Below w.heap.size w w' :=
  each_free _ _ _ _ _ _ (h.sel i hi) (h.at_ i hi) hk (h.at_ i hi).get_le (h.at_ i hi).cap_le

def PM.store (m : PM) (n S K : Int) (b : Bytes) : Nat × PM :=
  if ¬ (0 ≤ n ∧ n < m.list.length) ∨ S < 0 ∨ 1073741824 < S ∨ K < 0 ∨ 255 < K ∨ 50 < b.length then (1, m)
  else if (m.get n.toNat).lost then (8, m)
  else match ((m.get n.toNat).find S K).orElse (fun _ => (m.get n.toNat).free1) with
    | none => (3, m)
    | some j => m.write n.toNat j (frame S.toNat K.toNat b)

theorem store_nil (n S K : Int) (v : Value) (w : World) : Calls Try.prog 20 #[.pointer none, .int .i64 n, .int .i64 S, .int .i64 K, v] w fun e w' => e = .returned (.int .i64 1) ∧ w = w' := by
  go_enter Try.func20, Try.ntmps20
  go_wp2_with (go_at_call 30; refine (drive_of_nil _ _).mono ?_; rintro e w1 ⟨rfl, rfl⟩)
  go_ret
  exact ⟨rfl, rfl⟩

set_option maxHeartbeats 1000000 in
set_option maxRecDepth 100000 in
theorem store_args (i : Nat) (S K : Int) (pv dv : Value) (ao : Option Addr) (len c : Nat) (w : World) (h30 : Calls Try.prog 30 #[pv, .int .i64 i] w fun e w' => e = .returned dv ∧ w = w') (hd : ∃ a, dv = .pointer (some a))
    (h : S < 0 ∨ 1073741824 < S ∨ K < 0 ∨ 255 < K ∨ 50 < len) :
    Calls Try.prog 20 #[pv, .int .i64 i, .int .i64 S, .int .i64 K, .slice ao len c] w fun e w' => e = .returned (.int .i64 1) ∧ w = w' := by
  obtain ⟨a, rfl⟩ := hd
  by_cases h1 : S < 0
  · clear h
    go_enter Try.func20, Try.ntmps20
    go_wp2_with (go_at_call 30; refine h30.mono ?_; rintro e w1 ⟨rfl, rfl⟩)
    go_ret
    exact ⟨rfl, rfl⟩
  · by_cases h2 : 1073741824 < S
    · clear h
      go_enter Try.func20, Try.ntmps20
      go_wp2_with (go_at_call 30; refine h30.mono ?_; rintro e w1 ⟨rfl, rfl⟩)
      go_ret
      exact ⟨rfl, rfl⟩
    · by_cases h3 : K < 0
      · clear h
        go_enter Try.func20, Try.ntmps20
        go_wp2_with (go_at_call 30; refine h30.mono ?_; rintro e w1 ⟨rfl, rfl⟩)
        go_ret
        exact ⟨rfl, rfl⟩
      · by_cases h4 : 255 < K
        · clear h
          go_enter Try.func20, Try.ntmps20
          go_wp2_with (go_at_call 30; refine h30.mono ?_; rintro e w1 ⟨rfl, rfl⟩)
          go_ret
          exact ⟨rfl, rfl⟩
        · have h5 : (50 : Int) < (len : Int) := by omega
          clear h
          go_enter Try.func20, Try.ntmps20
          go_wp2_with (go_at_call 30; refine h30.mono ?_; rintro e w1 ⟨rfl, rfl⟩)
          go_ret
          exact ⟨rfl, rfl⟩

set_option maxHeartbeats 1000000 in
set_option maxRecDepth 100000 in
theorem store_none (n S K : Int) (pv v : Value) (w : World) (h30 : Calls Try.prog 30 #[pv, .int .i64 n] w fun e w' => e = .returned (.pointer none) ∧ w = w') :
    Calls Try.prog 20 #[pv, .int .i64 n, .int .i64 S, .int .i64 K, v] w fun e w' => e = .returned (.int .i64 1) ∧ w = w' := by
  go_enter Try.func20, Try.ntmps20
  go_wp2_with (go_at_call 30; refine h30.mono ?_; rintro e w1 ⟨rfl, rfl⟩)
  go_ret
  exact ⟨rfl, rfl⟩

/-- A walk of Store behind its first tests. -/
theorem store_go {w : World} {F T : Nat → Prop} {pb : Nat} {lv : Value} {dbs : List Nat} {G : Nat → Nat → Prop} {m : PM} (h : PoolIn w F pb lv dbs G m) (i : Nat) (hi : i < m.list.length) (hk : (m.get i).loose.length ≤ 1000000000)
    (S K : Nat) (hS : S ≤ 1073741824) (hK : K ≤ 255) {v : Value} {b : Bytes} (hB : Bs w T v b) (hb : b.length ≤ 50) (r : Nat × PM)
    (hr : r = if (m.get i).lost then (8, m) else match ((m.get i).find S K).orElse (fun _ => (m.get i).free1) with | none => (3, m) | some j => m.write i j (frame S K b)) :
    Calls Try.prog 20 #[.pointer (some ⟨pb, 0, none⟩), .int .i64 i, .int .i64 S, .int .i64 K, v] w fun e w' => e = .returned (.int .i64 r.1) ∧ PStep w F pb r.2 w' := by
  have h30 := h.sel i hi
  have hus := pool_usable ⟨lv, dbs, G, h⟩ (i : Int)
  have hue : m.use (i : Int) = if (m.get i).lost then 8 else 0 := by
    unfold PM.use; rw [if_pos (by omega)]; rfl
  rw [hue] at hus
  have hFh := h.here
  obtain ⟨aov, cv, rfl⟩ := hB.shape
  have g1 : ¬ ((S : Int) < 0) := by omega
  have g2 : ¬ ((1073741824 : Int) < (S : Int)) := by omega
  have g3 : ¬ ((K : Int) < 0) := by omega
  have g4 : ¬ ((255 : Int) < (K : Int)) := by omega
  have g5 : ¬ ((50 : Int) < (b.length : Int)) := by omega
  have HS := Lib.hid hS; have HK := Lib.hid hK
  clear hS hK
  have hfi := pool_find h i hi hk S K
  have hpb := h.here pb h.fpb
  change Calls Try.prog 62 _ w fun e w' => e = .returned (.int .i64 (idxV ((m.get i).find S K))) ∧ Below w.heap.size w w' at hfi
  have HH := Lib.hid h; have HB := Lib.hid hB; have HF := Lib.hid hfi; have HR := Lib.hid hr; have HHI := Lib.hid hi; have HKK := Lib.hid hk
  clear h hB hfi hr hue hi hk
  cases hlo : (m.get i).lost with
  | true =>
    have er : r = (8, m) := by rw [HR.out, hlo]; rfl
    subst er
    rw [hlo] at hus
    have R := Lib.hid (HH.out.pstep (Below.refl _ _))
    clear hlo HR
    go_enter Try.func20, Try.ntmps20
    go_wp2_with (first | (go_at_call 30; refine h30.mono ?_; rintro e w1 ⟨rfl, rfl⟩) | (go_at_call 61; refine hus.mono ?_; rintro e w1 ⟨rfl, rfl⟩))
    go_ret
    exact ⟨rfl, R.out⟩
  | false =>
    rw [hlo] at hus
    cases hff : (m.get i).find S K with
    | some j =>
      have er : r = m.write i j (frame S K b) := by rw [HR.out, hlo, hff]; rfl
      subst er
      have hjc := find_lt hff
      rw [hff] at HF
      clear hlo hff HR
      have hj0 : ¬ ((j : Int) < 0) := by omega
      go_enter Try.func20, Try.ntmps20
      go_wp2_with (first | (go_at_call 30; refine h30.mono ?_; rintro e w1 ⟨rfl, rfl⟩) | (go_at_call 61; refine hus.mono ?_; rintro e w1 ⟨rfl, rfl⟩) | (go_at_call 62; refine HF.out.mono ?_; rintro e w1 ⟨rfl, hb1⟩; simp only [idxV]))
      refine (frame_any S K (Nat.lt_of_le_of_lt HS.out (by decide)) (Nat.lt_of_le_of_lt HK.out (by decide)) (HB.out.below hb1) (by omega)).mono ?_
      rintro e w3 ⟨v3, rfl, hv3, hb3⟩
      have hbb : Below w.heap.size w w3 := hb1.trans (hb3.mono hb1.size)
      have hw := pool_write (HH.out.kept (Mod.of_below (fun _ => False) hbb) fun _ _ => id) i j HHI.out hjc HKK.out hv3 (fun b hb e => by have h1 := hb1.size; subst e; simp only [Fresh] at hb; omega) (Nat.le_trans (frame_len _ _ _) (by decide))
      have HW := Lib.hid hw; have HBB := Lib.hid hbb
      clear hw hv3 hb1 hb3 hbb
      go_wp2_with (fail)
      refine HW.out.mono ?_
      rintro e w4 ⟨rfl, hs⟩
      have R := Lib.hid (PStep.of hFh (Mod.of_below F HBB.out) hs)
      clear hs
      go_wp2
      go_ret
      exact ⟨rfl, R.out⟩
    | none =>
      cases hfr : (m.get i).free1 with
      | none =>
        have er : r = (3, m) := by rw [HR.out, hlo, hff, hfr]; rfl
        subst er
        rw [hff] at HF
        have hfe := fun (w1 : World) (hb1 : Below w.heap.size w w1) => pool_free1 (HH.out.kept (Mod.of_below (fun _ => False) hb1) fun _ _ => id) i HHI.out HKK.out
        rw [hfr] at hfe
        have HFE := Lib.hid hfe
        clear hlo hff HR hfr hfe
        go_enter Try.func20, Try.ntmps20
        go_wp2_with (first | (go_at_call 30; refine h30.mono ?_; rintro e w1 ⟨rfl, rfl⟩) | (go_at_call 61; refine hus.mono ?_; rintro e w1 ⟨rfl, rfl⟩) | (go_at_call 62; refine HF.out.mono ?_; rintro e w1 ⟨rfl, hb1⟩; simp only [idxV]))
        refine (HFE.out _ hb1).mono ?_
        rintro e w2 ⟨rfl, hb2⟩
        simp only [idxV]
        have R := Lib.hid (HH.out.pstep (hb1.trans (hb2.mono hb1.size)))
        clear hb1 hb2
        go_wp2
        go_ret
        exact ⟨rfl, R.out⟩
      | some j =>
        have er : r = m.write i j (frame S K b) := by rw [HR.out, hlo, hff, hfr]; rfl
        subst er
        have hjc := free1_lt hfr
        rw [hff] at HF
        have hfe := fun (w1 : World) (hb1 : Below w.heap.size w w1) => pool_free1 (HH.out.kept (Mod.of_below (fun _ => False) hb1) fun _ _ => id) i HHI.out HKK.out
        rw [hfr] at hfe
        have HFE := Lib.hid hfe
        clear hlo hff HR hfr hfe
        have hj0 : ¬ ((j : Int) < 0) := by omega
        go_enter Try.func20, Try.ntmps20
        go_wp2_with (first | (go_at_call 30; refine h30.mono ?_; rintro e w1 ⟨rfl, rfl⟩) | (go_at_call 61; refine hus.mono ?_; rintro e w1 ⟨rfl, rfl⟩) | (go_at_call 62; refine HF.out.mono ?_; rintro e w1 ⟨rfl, hb1⟩; simp only [idxV]))
        refine (HFE.out _ hb1).mono ?_
        rintro e w2 ⟨rfl, hb2⟩
        simp only [idxV]
        have hb1 := hb1.trans (hb2.mono hb1.size)
        go_wp2_with (fail)
        refine (frame_any S K (Nat.lt_of_le_of_lt HS.out (by decide)) (Nat.lt_of_le_of_lt HK.out (by decide)) (HB.out.below hb1) (by omega)).mono ?_
        rintro e w3 ⟨v3, rfl, hv3, hb3⟩
        have hbb : Below w.heap.size w w3 := hb1.trans (hb3.mono hb1.size)
        have hw := pool_write (HH.out.kept (Mod.of_below (fun _ => False) hbb) fun _ _ => id) i j HHI.out hjc HKK.out hv3 (fun b hb e => by have h1 := hb1.size; subst e; simp only [Fresh] at hb; omega) (Nat.le_trans (frame_len _ _ _) (by decide))
        have HW := Lib.hid hw; have HBB := Lib.hid hbb
        clear hw hv3 hb1 hb3 hbb
        go_wp2_with (fail)
        refine HW.out.mono ?_
        rintro e w4 ⟨rfl, hs⟩
        have R := Lib.hid (PStep.of hFh (Mod.of_below F HBB.out) hs)
        clear hs
        go_wp2
        go_ret
        exact ⟨rfl, R.out⟩
end Go.Proofs.Fl

import Derived.Test.YtficmalfoeaibaaXA0toA8
import Derived.Deep.RegionHeld3
namespace Go.Proofs.Fr
open Go.RowKit Go.Proofs.Fl

/-- What a pool's drive is: the pointer's cell. -/
theorem PoolIn.open_ {w : World} {F : Nat → Prop} {pb : Nat} {lv : Value} {dbs : List Nat} {G : Nat → Nat → Prop} {m : PM} (h : PoolIn w F pb lv dbs G m) (i : Nat) (hi : i < m.list.length) :
    ∃ ob cap, lv = .slice (some ⟨ob, 0, none⟩) m.list.length cap ∧ w.cell? ⟨pb, 0, none⟩ = some (.slice (some ⟨ob, 0, none⟩) m.list.length cap) ∧ w.cell? ⟨ob, i, none⟩ = some (.pointer (some ⟨dbs.getD i 0, 0, none⟩)) ∧ ¬ G i ob ∧ ¬ G i pb ∧ ob < w.heap.size ∧ pb < w.heap.size ∧ ob ≠ pb := by
  obtain ⟨ao, cap, ob, rfl, rfl, hc⟩ := h.cell i hi
  have ho := h.ownF ob rfl
  exact ⟨ob, cap, rfl, blk_cell h.blk rfl, hc, ho.2.2 i, fun hg => (h.sub i _ hg).2 rfl, h.here ob ho.1, h.here pb h.fpb, ho.2.1⟩

set_option maxHeartbeats 1000000 in
set_option maxRecDepth 100000 in
theorem rstore_args {w : World} {F : Nat → Prop} {pb : Nat} {lv : Value} {dbs : List Nat} {G : Nat → Nat → Prop} {m : PM} (h : PoolIn w F pb lv dbs G m) (n S K : Int) (va : Option Addr) (len vc : Nat)
    (hbad : ¬ (0 ≤ n ∧ n < m.list.length) ∨ S < 0 ∨ 1073741824 < S ∨ K < 0 ∨ 255 < K ∨ 50 < len) :
    Calls Try.prog 33 #[.pointer (some ⟨pb, 0, none⟩), .int .i64 n, .int .i64 S, .int .i64 K, .slice va len vc] w fun e w' => e = .returned (.int .i64 1) ∧ w = w' := by
  have hu := ruse_any h n
  have hu1 : m.use n = 1 ↔ ¬ (0 ≤ n ∧ n < m.list.length) := by
    unfold PM.use
    by_cases hn : 0 ≤ n ∧ n < m.list.length
    · rw [if_pos hn]; split <;> simp [hn]
    · rw [if_neg hn]; simp [hn]
  rw [← hu1] at hbad
  generalize m.use n = u at *
  have HU := Lib.hid hu
  clear hu1 hu h
  by_cases c1 : u = 1
  · subst c1
    clear hbad
    go_enter Try.func33, Try.ntmps33
    go_wp2_with (go_at_call 40; refine HU.out.mono ?_; rintro e w1 ⟨rfl, rfl⟩)
    go_ret
    exact ⟨rfl, rfl⟩
  have c1i : ¬ (u : Int) = 1 := by omega
  by_cases c2 : S < 0
  · clear hbad c1
    go_enter Try.func33, Try.ntmps33
    go_wp2_with (go_at_call 40; refine HU.out.mono ?_; rintro e w1 ⟨rfl, rfl⟩)
    go_ret
    exact ⟨rfl, rfl⟩
  by_cases c3 : 1073741824 < S
  · clear hbad c1
    go_enter Try.func33, Try.ntmps33
    go_wp2_with (go_at_call 40; refine HU.out.mono ?_; rintro e w1 ⟨rfl, rfl⟩)
    go_ret
    exact ⟨rfl, rfl⟩
  by_cases c4 : K < 0
  · clear hbad c1
    go_enter Try.func33, Try.ntmps33
    go_wp2_with (go_at_call 40; refine HU.out.mono ?_; rintro e w1 ⟨rfl, rfl⟩)
    go_ret
    exact ⟨rfl, rfl⟩
  by_cases c5 : 255 < K
  · clear hbad c1
    go_enter Try.func33, Try.ntmps33
    go_wp2_with (go_at_call 40; refine HU.out.mono ?_; rintro e w1 ⟨rfl, rfl⟩)
    go_ret
    exact ⟨rfl, rfl⟩
  have c6 : (50 : Int) < (len : Int) := by omega
  clear hbad c1
  go_enter Try.func33, Try.ntmps33
  go_wp2_with (go_at_call 40; refine HU.out.mono ?_; rintro e w1 ⟨rfl, rfl⟩)
  go_ret
  exact ⟨rfl, rfl⟩
end Go.Proofs.Fr

namespace Go.Proofs.Fr
open Go.RowKit Go.Proofs.Fl

set_option maxHeartbeats 2000000 in
set_option maxRecDepth 100000 in
theorem rstore_go {w : World} {F T : Nat → Prop} {pb : Nat} {lv : Value} {dbs : List Nat} {G : Nat → Nat → Prop} {m : PM} (h : PoolIn w F pb lv dbs G m) (i : Nat) (hi : i < m.list.length) (hk : (m.get i).loose.length ≤ 1000000000) (s k : Nat) (hs : s ≤ 1073741824) (hK : k ≤ 255)
    {v : Value} {b : Bytes} (hB : Bs w T v b) (hTF : ∀ b, T b → ¬ F b) (hb50 : b.length ≤ 50) (r : Nat × PM)
    (hr : r = if (m.get i).lost then (8, m) else match ((m.get i).find s k).orElse (fun _ => (m.get i).free1) with | none => (3, m) | some j => m.write i j (frame s k b)) :
    Calls Try.prog 33 #[.pointer (some ⟨pb, 0, none⟩), .int .i64 i, .int .i64 s, .int .i64 k, v] w fun e w' => e = .returned (.int .i64 r.1) ∧ PStep w F pb r.2 w' := by
  have hu := ruse_any h i
  have hue : m.use i = if (m.get i).lost then 8 else 0 := by
    unfold PM.use
    rw [if_pos (by omega)]; rfl
  rw [hue] at hu
  have hfi := rfind_shard h i hi hk s k (by omega)
  have hfl : (frame s k b).length ≤ 64 := Nat.le_trans (frame_len _ _ _) (by decide)
  have c2 : ¬ (s : Int) < 0 := by omega
  have c3 : ¬ (1073741824 : Int) < (s : Int) := by omega
  have c4 : ¬ (k : Int) < 0 := by omega
  have c5 : ¬ (255 : Int) < (k : Int) := by omega
  have c6 : ¬ (50 : Int) < (b.length : Int) := by omega
  obtain ⟨va, vc, rfl⟩ := hB.shape
  have HH := Lib.hid h; have HF := Lib.hid hfi
  cases hlo : (m.get i).lost with
  | true =>
    have er : r = (8, m) := by rw [hr, hlo]; rfl
    subst er
    rw [hlo] at hu
    have HU := Lib.hid hu
    have R := Lib.hid (h.pstep (Below.refl _ _))
    clear hlo hr hu hue hfi h hB
    go_enter Try.func33, Try.ntmps33
    go_wp2_with (go_at_call 40; refine HU.out.mono ?_; rintro e w1 ⟨rfl, rfl⟩)
    go_ret
    exact ⟨rfl, R.out⟩
  | false =>
    rw [hlo] at hu
    have HU := Lib.hid hu
    clear hu hue hfi h
    cases hff : (m.get i).find s k with
    | some j =>
      have er : r = m.write i j (frame s k b) := by rw [hr, hlo, hff]; rfl
      have hjc := find_lt hff
      rw [hff] at HF
      have HF2 := Lib.hid (show Calls Try.prog 76 #[.pointer (some ⟨pb, 0, none⟩), .int .i64 i, .int .i64 s, .int .i64 k] w fun e w' => e = .returned (.int .i64 (j : Int)) ∧ Below w.heap.size w w' from HF.out)
      have hj0 : ¬ ((j : Int) < 0) := by omega
      subst er
      clear hlo hff hr HF
      go_enter Try.func33, Try.ntmps33
      go_wp2_with (first | (go_at_call 40; refine HU.out.mono ?_; rintro e w1 ⟨rfl, rfl⟩) | (go_at_call 76; refine HF2.out.mono ?_; rintro e w1 ⟨rfl, hb1⟩))
      have HB1 := Lib.hid hb1
      clear hb1
      have h1 := HH.out.kept (Mod.of_below (fun _ => False) HB1.out) (fun _ _ => id)
      have hbu := rpool_burn h1
      have HBU := Lib.hid hbu
      clear h1 hbu
      go_wp2_with (fail)
      refine HBU.out.mono ?_
      rintro e w2 ⟨rfl, hm2, h2⟩
      have hmF : Mod F w w2 := (Mod.of_below F HB1.out).trans (hm2.mono fun k _ e => e ▸ HH.out.fpb)
      cases hbn : m.burn.1 with
      | false =>
        have er : m.write i j (frame s k b) = (9, m.burn.2) := by unfold PM.write; rw [hbn]; rfl
        have ER := Lib.hid er
        have R := Lib.hid (PStep.same h2 hmF)
        clear h2 hm2 hmF hbn er HBU
        go_wp2
        go_ret
        rw [ER.out]
        exact ⟨rfl, R.out⟩
      | true =>
        have er : m.write i j (frame s k b) = (0, m.burn.2.setD i ((m.get i).put j (frame s k b))) := by unfold PM.write; rw [hbn]; rfl
        have ER := Lib.hid er
        have hi2 : i < m.burn.2.list.length := by rw [burn_list]; exact hi
        obtain ⟨ob, cap, rfl, k0, k1, g0, g1, ol, pl, obp⟩ := h2.open_ i hi2
        have hat := h2.at_ i hi2
        rw [show m.burn.2.list.getD i dNone = m.get i from burn_get m i] at hat
        rw [burn_list] at k0
        have hkeep : ∀ u, Below w2.heap.size w2 u → u.cell? ⟨pb, 0, none⟩ = some (.slice (some ⟨ob, 0, none⟩) m.list.length cap) ∧ u.cell? ⟨ob, i, none⟩ = some (.pointer (some ⟨dbs.getD i 0, 0, none⟩)) := fun u hu =>
          ⟨(hu.cell (p := ⟨pb, 0, none⟩) pl).trans k0, (hu.cell (p := ⟨ob, i, none⟩) ol).trans k1⟩
        have hd2 : Below w2.heap.size w2 w2.drew := (Below.refl _ _).drew
        have hfr := (rframe_any s k (Nat.lt_of_le_of_lt hs (by decide)) (Nat.lt_of_le_of_lt hK (by decide)) ((hB.kept hmF (fun b hb hT hF => hTF b hT hF)).below hd2) (by omega)).mono (R' := fun e w' => ∃ v3, e = .returned v3 ∧ Bs w' (Fresh w2) v3 (frame s k b) ∧ Below w2.heap.size w2 w' ∧ (w'.cell? ⟨pb, 0, none⟩ = some (.slice (some ⟨ob, 0, none⟩) m.list.length cap) ∧ w'.cell? ⟨ob, i, none⟩ = some (.pointer (some ⟨dbs.getD i 0, 0, none⟩)))) (by
          rintro e w' ⟨v3, rfl, hv3, hb3⟩
          have hb' := hd2.trans hb3
          exact ⟨v3, rfl, hv3, hb', hkeep _ hb'⟩)
        have HFR := Lib.hid hfr
        have K01 := Lib.hid (And.intro k0 k1)
        have hpt : ∀ u v3, Below w2.heap.size w2 u → Bs u (Fresh w2) v3 (frame s k b) → Calls Try.prog 78 #[.pointer (some ⟨dbs.getD i 0, 0, none⟩), .int .i64 j, v3] u fun e w' => e = .returned (.int .i64 0) ∧ PStep w F pb (m.burn.2.setD i ((m.get i).put j (frame s k b))) w' ∧ (w'.cell? ⟨pb, 0, none⟩ = some (.slice (some ⟨ob, 0, none⟩) m.list.length cap) ∧ w'.cell? ⟨ob, i, none⟩ = some (.pointer (some ⟨dbs.getD i 0, 0, none⟩))) := fun u v3 hu hv3 => by
          have hu2 := h2.kept (Mod.of_below (fun _ => False) hu) (fun _ _ => id)
          have hau := hu2.at_ i hi2
          rw [show m.burn.2.list.getD i dNone = m.get i from burn_get m i] at hau
          refine (rdrive_put hau j hjc hk hv3 hfl).mono ?_
          rintro e w' ⟨rfl, hs⟩
          have hp := hu2.drive i hi2 _ hs
          obtain ⟨q0, q1⟩ := hkeep u hu
          have hus := hu.size
          exact ⟨rfl, PStep.of HH.out.here (hmF.trans (Mod.of_below F hu)) hp, (hs.mod.cell (p := ⟨pb, 0, none⟩) (Nat.lt_of_lt_of_le pl hus) g1).trans q0, (hs.mod.cell (p := ⟨ob, i, none⟩) (Nat.lt_of_lt_of_le ol hus) g0).trans q1⟩
        have HPT := Lib.hid hpt
        have hii : (i : Int) < (m.list.length : Int) := by omega
        generalize (m.get i).put j (frame s k b) = dput at *
        clear hfr hpt hkeep hd2 hat h2 hm2 hmF hbn er HBU k0 k1 hB
        have k0 := K01.out.1
        have k1 := K01.out.2
        generalize dbs.getD i 0 = db at *
        go_wp2
        go_region_held3 (fun w' => w'.cell? ⟨pb, 0, none⟩ = some (.slice (some ⟨ob, 0, none⟩) m.list.length cap) ∧ w'.cell? ⟨ob, i, none⟩ = some (.pointer (some ⟨db, 0, none⟩))) (go_keep) ((first | (go_at_call 79; refine HFR.out.mono ?_; rintro e w3 ⟨v3, rfl, hv3, hb3, q0, q1⟩) | (go_at_call 78; refine (HPT.out _ _ hb3 hv3).mono ?_; rintro e w4 ⟨rfl, hs4, q2, q3⟩)))
        have R := Lib.hid hs4
        clear hs4 hb3 hv3 q0 q1 q2 q3
        go_wp2
        go_ret
        rw [ER.out]
        exact ⟨rfl, R.out⟩
    | none =>
      cases hfr : (m.get i).free1 with
      | none =>
        have er : r = (3, m) := by rw [hr, hlo, hff, hfr]; rfl
        subst er
        rw [hff] at HF
        have HF2 := Lib.hid (show Calls Try.prog 76 #[.pointer (some ⟨pb, 0, none⟩), .int .i64 i, .int .i64 s, .int .i64 k] w fun e w' => e = .returned (.int .i64 (-1)) ∧ Below w.heap.size w w' from HF.out)
        have hfe := fun (w1 : World) (hb1 : Below w.heap.size w w1) => rfind_free (HH.out.kept (Mod.of_below (fun _ => False) hb1) fun _ _ => id) i hi hk
        rw [hfr] at hfe
        have HFE := Lib.hid (show ∀ w1, Below w.heap.size w w1 → Calls Try.prog 76 #[.pointer (some ⟨pb, 0, none⟩), .int .i64 i, .int .i64 (-1), .int .i64 0] w1 fun e w' => e = .returned (.int .i64 (-1)) ∧ Below w1.heap.size w1 w' from hfe)
        clear hlo hff hr hfr hfe HF hB
        go_enter Try.func33, Try.ntmps33
        go_wp2_with (go_at_call 40; refine HU.out.mono ?_; rintro e w1 ⟨rfl, rfl⟩)
        refine HF2.out.mono ?_
        rintro e w1 ⟨rfl, hb1⟩
        go_wp2_with (fail)
        refine (HFE.out _ hb1).mono ?_
        rintro e w2 ⟨rfl, hb2⟩
        have R := Lib.hid (HH.out.pstep (hb1.trans (hb2.mono hb1.size)))
        clear hb1 hb2
        go_wp2
        go_ret
        exact ⟨rfl, R.out⟩
      | some j =>
        have er : r = m.write i j (frame s k b) := by rw [hr, hlo, hff, hfr]; rfl
        have hjc := free1_lt hfr
        rw [hff] at HF
        have HF2 := Lib.hid (show Calls Try.prog 76 #[.pointer (some ⟨pb, 0, none⟩), .int .i64 i, .int .i64 s, .int .i64 k] w fun e w' => e = .returned (.int .i64 (-1)) ∧ Below w.heap.size w w' from HF.out)
        have hfe := fun (w1 : World) (hb1 : Below w.heap.size w w1) => rfind_free (HH.out.kept (Mod.of_below (fun _ => False) hb1) fun _ _ => id) i hi hk
        rw [hfr] at hfe
        have HFE := Lib.hid (show ∀ w1, Below w.heap.size w w1 → Calls Try.prog 76 #[.pointer (some ⟨pb, 0, none⟩), .int .i64 i, .int .i64 (-1), .int .i64 0] w1 fun e w' => e = .returned (.int .i64 (j : Int)) ∧ Below w1.heap.size w1 w' from hfe)
        have hj0 : ¬ ((j : Int) < 0) := by omega
        subst er
        clear hlo hff hr hfr hfe HF
        go_enter Try.func33, Try.ntmps33
        go_wp2_with (go_at_call 40; refine HU.out.mono ?_; rintro e w1 ⟨rfl, rfl⟩)
        refine HF2.out.mono ?_
        rintro e w0 ⟨rfl, hb0⟩
        go_wp2_with (fail)
        refine (HFE.out _ hb0).mono ?_
        rintro e w1 ⟨rfl, hb1⟩
        have HB1 := Lib.hid (hb0.trans (hb1.mono hb0.size))
        clear hb0 hb1
        have h1 := HH.out.kept (Mod.of_below (fun _ => False) HB1.out) (fun _ _ => id)
        have hbu := rpool_burn h1
        have HBU := Lib.hid hbu
        clear h1 hbu
        go_wp2_with (fail)
        refine HBU.out.mono ?_
        rintro e w2 ⟨rfl, hm2, h2⟩
        have hmF : Mod F w w2 := (Mod.of_below F HB1.out).trans (hm2.mono fun k _ e => e ▸ HH.out.fpb)
        cases hbn : m.burn.1 with
        | false =>
          have er : m.write i j (frame s k b) = (9, m.burn.2) := by unfold PM.write; rw [hbn]; rfl
          have ER := Lib.hid er
          have R := Lib.hid (PStep.same h2 hmF)
          clear h2 hm2 hmF hbn er HBU
          go_wp2
          go_ret
          rw [ER.out]
          exact ⟨rfl, R.out⟩
        | true =>
          have er : m.write i j (frame s k b) = (0, m.burn.2.setD i ((m.get i).put j (frame s k b))) := by unfold PM.write; rw [hbn]; rfl
          have ER := Lib.hid er
          have hi2 : i < m.burn.2.list.length := by rw [burn_list]; exact hi
          obtain ⟨ob, cap, rfl, k0, k1, g0, g1, ol, pl, obp⟩ := h2.open_ i hi2
          have hat := h2.at_ i hi2
          rw [show m.burn.2.list.getD i dNone = m.get i from burn_get m i] at hat
          rw [burn_list] at k0
          have hkeep : ∀ u, Below w2.heap.size w2 u → u.cell? ⟨pb, 0, none⟩ = some (.slice (some ⟨ob, 0, none⟩) m.list.length cap) ∧ u.cell? ⟨ob, i, none⟩ = some (.pointer (some ⟨dbs.getD i 0, 0, none⟩)) := fun u hu =>
            ⟨(hu.cell (p := ⟨pb, 0, none⟩) pl).trans k0, (hu.cell (p := ⟨ob, i, none⟩) ol).trans k1⟩
          have hd2 : Below w2.heap.size w2 w2.drew := (Below.refl _ _).drew
          have hfr := (rframe_any s k (Nat.lt_of_le_of_lt hs (by decide)) (Nat.lt_of_le_of_lt hK (by decide)) ((hB.kept hmF (fun b hb hT hF => hTF b hT hF)).below hd2) (by omega)).mono (R' := fun e w' => ∃ v3, e = .returned v3 ∧ Bs w' (Fresh w2) v3 (frame s k b) ∧ Below w2.heap.size w2 w' ∧ (w'.cell? ⟨pb, 0, none⟩ = some (.slice (some ⟨ob, 0, none⟩) m.list.length cap) ∧ w'.cell? ⟨ob, i, none⟩ = some (.pointer (some ⟨dbs.getD i 0, 0, none⟩)))) (by
            rintro e w' ⟨v3, rfl, hv3, hb3⟩
            have hb' := hd2.trans hb3
            exact ⟨v3, rfl, hv3, hb', hkeep _ hb'⟩)
          have HFR := Lib.hid hfr
          have K01 := Lib.hid (And.intro k0 k1)
          have hpt : ∀ u v3, Below w2.heap.size w2 u → Bs u (Fresh w2) v3 (frame s k b) → Calls Try.prog 78 #[.pointer (some ⟨dbs.getD i 0, 0, none⟩), .int .i64 j, v3] u fun e w' => e = .returned (.int .i64 0) ∧ PStep w F pb (m.burn.2.setD i ((m.get i).put j (frame s k b))) w' ∧ (w'.cell? ⟨pb, 0, none⟩ = some (.slice (some ⟨ob, 0, none⟩) m.list.length cap) ∧ w'.cell? ⟨ob, i, none⟩ = some (.pointer (some ⟨dbs.getD i 0, 0, none⟩))) := fun u v3 hu hv3 => by
            have hu2 := h2.kept (Mod.of_below (fun _ => False) hu) (fun _ _ => id)
            have hau := hu2.at_ i hi2
            rw [show m.burn.2.list.getD i dNone = m.get i from burn_get m i] at hau
            refine (rdrive_put hau j hjc hk hv3 hfl).mono ?_
            rintro e w' ⟨rfl, hs⟩
            have hp := hu2.drive i hi2 _ hs
            obtain ⟨q0, q1⟩ := hkeep u hu
            have hus := hu.size
            exact ⟨rfl, PStep.of HH.out.here (hmF.trans (Mod.of_below F hu)) hp, (hs.mod.cell (p := ⟨pb, 0, none⟩) (Nat.lt_of_lt_of_le pl hus) g1).trans q0, (hs.mod.cell (p := ⟨ob, i, none⟩) (Nat.lt_of_lt_of_le ol hus) g0).trans q1⟩
          have HPT := Lib.hid hpt
          have hii : (i : Int) < (m.list.length : Int) := by omega
          generalize (m.get i).put j (frame s k b) = dput at *
          clear hfr hpt hkeep hd2 hat h2 hm2 hmF hbn er HBU k0 k1 hB
          have k0 := K01.out.1
          have k1 := K01.out.2
          generalize dbs.getD i 0 = db at *
          go_wp2
          go_region_held3 (fun w' => w'.cell? ⟨pb, 0, none⟩ = some (.slice (some ⟨ob, 0, none⟩) m.list.length cap) ∧ w'.cell? ⟨ob, i, none⟩ = some (.pointer (some ⟨db, 0, none⟩))) (go_keep) ((first | (go_at_call 79; refine HFR.out.mono ?_; rintro e w3 ⟨v3, rfl, hv3, hb3, q0, q1⟩) | (go_at_call 78; refine (HPT.out _ _ hb3 hv3).mono ?_; rintro e w4 ⟨rfl, hs4, q2, q3⟩)))
          have R := Lib.hid hs4
          clear hs4 hb3 hv3 q0 q1 q2 q3
          go_wp2
          go_ret
          rw [ER.out]
          exact ⟨rfl, R.out⟩
end Go.Proofs.Fr

namespace Go.Proofs.Fr
open Go.RowKit Go.Proofs.Fl

theorem find_neg (d : DM) {S : Int} (K : Int) (h : S < 0) : d.find S K = none := by
  unfold DM.find
  refine firstIn_none fun j _ => ?_
  unfold hasB
  cases openF (d.get j) with
  | none => rfl
  | some r =>
    obtain ⟨s, p, b⟩ := r
    have : ((s : Int) == S) = false := beq_eq_false_iff_ne.2 (by omega)
    simp only [this, Bool.false_and]
theorem find_open {d : DM} {S K : Int} {j : Nat} (h : d.find S K = some j) : ∃ s p b, openF (d.get j) = some (s, p, b) ∧ (s : Int) = S ∧ (p : Int) = K := by
  have h1 := (firstIn_spec h).2
  unfold hasB at h1
  cases ho : openF (d.get j) with
  | none => rw [ho] at h1; cases h1
  | some r =>
    obtain ⟨s, p, b⟩ := r
    rw [ho] at h1
    simp only [Bool.and_eq_true, beq_iff_eq] at h1
    exact ⟨s, p, b, rfl, h1.1, h1.2⟩

theorem rstore_any {w : World} {F T : Nat → Prop} {pb : Nat} {m : PM} (h : PoolAt w F pb m) (hk : m.calm) (n S K : Int) {v : Value} {b : Bytes} (hB : Bs w T v b) (hTF : ∀ b, T b → ¬ F b) :
    Calls Try.prog 33 #[.pointer (some ⟨pb, 0, none⟩), .int .i64 n, .int .i64 S, .int .i64 K, v] w fun e w' => e = .returned (.int .i64 (m.store n S K b).1) ∧ PStep w F pb (m.store n S K b).2 w' := by
  obtain ⟨lv, dbs, G, h⟩ := h
  unfold PM.store
  by_cases ha : ¬ (0 ≤ n ∧ n < m.list.length) ∨ S < 0 ∨ 1073741824 < S ∨ K < 0 ∨ 255 < K ∨ 50 < b.length
  · rw [if_pos ha]
    obtain ⟨va, vc, rfl⟩ := hB.shape
    refine (rstore_args h n S K va b.length vc ha).mono ?_
    rintro e w' ⟨rfl, rfl⟩
    exact ⟨rfl, h.pstep (Below.refl _ _)⟩
  · rw [if_neg ha]
    obtain ⟨i, rfl⟩ : ∃ i : Nat, n = i := ⟨n.toNat, by omega⟩
    obtain ⟨s, rfl⟩ : ∃ s : Nat, S = s := ⟨S.toNat, by omega⟩
    obtain ⟨k, rfl⟩ : ∃ k : Nat, K = k := ⟨K.toNat, by omega⟩
    have hi : i < m.list.length := by omega
    exact rstore_go h i hi (hk i hi) s k (by omega) (by omega) hB hTF (by omega) _ rfl

def RLoadP (w : World) (F : Nat → Prop) (r : Bytes × Nat) (e : Ending) (w' : World) : Prop := ∃ v, e = .returned (.tuple #[v, .int .i64 r.2]) ∧ Bs w' F v r.1 ∧ Below w.heap.size w w'

set_option maxHeartbeats 2000000 in
set_option maxRecDepth 100000 in
theorem rload_any {w : World} {F : Nat → Prop} {pb : Nat} {m : PM} (h : PoolAt w F pb m) (hk : m.calm) (n S K : Int) :
    Calls Try.prog 34 #[.pointer (some ⟨pb, 0, none⟩), .int .i64 n, .int .i64 S, .int .i64 K] w (RLoadP w F (m.load n S K)) := by
  obtain ⟨lv, dbs, G, h⟩ := h
  have hu := ruse_any h n
  rcases use_cases m n with h1 | h1 | ⟨h1, i, rfl, hi, hlo⟩
  · have er : m.load n S K = ([], 1) := by unfold PM.load; rw [h1]; rfl
    rw [er]
    rw [h1] at hu
    have HU := Lib.hid hu
    clear hu h h1 er
    go_enter Try.func34, Try.ntmps34
    go_wp2_with (go_at_call 40; refine HU.out.mono ?_; rintro e w1 ⟨rfl, rfl⟩)
    go_ret2
    exact ⟨_, rfl, Bs.nil _ _, Below.refl _ _⟩
  · have er : m.load n S K = ([], 8) := by unfold PM.load; rw [h1]; rfl
    rw [er]
    rw [h1] at hu
    have HU := Lib.hid hu
    clear hu h h1 er
    go_enter Try.func34, Try.ntmps34
    go_wp2_with (go_at_call 40; refine HU.out.mono ?_; rintro e w1 ⟨rfl, rfl⟩)
    go_ret2
    exact ⟨_, rfl, Bs.nil _ _, Below.refl _ _⟩
  · rw [h1] at hu
    have HU := Lib.hid hu
    have hld : m.load i S K = match (m.get i).find S K with | none => ([], 7) | some j => (match openF ((m.get i).get j) with | none => [] | some (_, _, b) => b, 0) := by
      unfold PM.load; rw [h1]; rfl
    rw [hld]
    by_cases hS : S < 0
    · rw [find_neg (m.get i) K hS]
      clear hu h h1 hld
      go_enter Try.func34, Try.ntmps34
      go_wp2_with (go_at_call 40; refine HU.out.mono ?_; rintro e w1 ⟨rfl, rfl⟩)
      go_ret2
      exact ⟨_, rfl, Bs.nil _ _, Below.refl _ _⟩
    · cases hff : (m.get i).find S K with
      | none =>
        have hfi := rfind_shard h i hi (hk i hi) S K (by omega)
        rw [hff] at hfi
        have HF := Lib.hid (show Calls Try.prog 76 #[.pointer (some ⟨pb, 0, none⟩), .int .i64 i, .int .i64 S, .int .i64 K] w fun e w' => e = .returned (.int .i64 (-1)) ∧ Below w.heap.size w w' from hfi)
        clear hu h h1 hld hff hfi
        go_enter Try.func34, Try.ntmps34
        go_wp2_with (first | (go_at_call 40; refine HU.out.mono ?_; rintro e w1 ⟨rfl, rfl⟩) | (go_at_call 76; refine HF.out.mono ?_; rintro e w1 ⟨rfl, hb1⟩))
        go_ret2
        exact ⟨_, rfl, Bs.nil _ _, hb1⟩
      | some j =>
        obtain ⟨s, p, b, ho, hs, hp⟩ := find_open hff
        have hjc := find_lt hff
        have hj0 : ¬ (j : Int) < 0 := by omega
        simp only [ho]
        have hfi : ∀ u, Below w.heap.size w u → Calls Try.prog 76 #[.pointer (some ⟨pb, 0, none⟩), .int .i64 i, .int .i64 S, .int .i64 K] u fun e w' => e = .returned (.int .i64 (j : Int)) ∧ Below u.heap.size u w' := fun u hu => by
          have := rfind_shard (h.kept (Mod.of_below (fun _ => False) hu) (fun _ _ => id)) i hi (hk i hi) S K (by omega)
          rw [hff] at this
          exact this
        have hget : ∀ u, Below w.heap.size w u → Calls Try.prog 81 #[.pointer (some ⟨dbs.getD i 0, 0, none⟩), .int .i64 j] u fun e w' => (∃ v', e = .returned v' ∧ Bs u F v' ((m.get i).get j)) ∧ u = w' := fun u hu => by
          have := rdrive_get ((h.at_ i hi).below hu) j hjc (hk i hi)
          refine this.mono ?_
          rintro e w' ⟨⟨v', rfl, hv⟩, rfl⟩
          exact ⟨⟨v', rfl, hv.mono fun b _ hb => (h.sub i b hb).1⟩, rfl⟩
        have hle := (h.at_ i hi).get_le j hjc
        obtain ⟨ob, cap, rfl, k0, k1, g0, g1, ol, pl, obp⟩ := h.open_ i hi
        have hii : (i : Int) < (m.list.length : Int) := by omega
        have HFI := Lib.hid hfi; have HGET := Lib.hid hget; have HO := Lib.hid ho
        have HK := Lib.hid (And.intro k0 k1)
        change ((m.get i).get j).length ≤ 64 at hle
        generalize (m.get i).get j = slot at *
        generalize dbs.getD i 0 = db at *
        clear hu h h1 hld hff hfi hget ho k0 k1 hs hp
        go_enter Try.func34, Try.ntmps34
        go_wp2_with (go_at_call 40; refine HU.out.mono ?_; rintro e w1 ⟨rfl, rfl⟩)
        refine (HFI.out _ (Below.refl _ _)).mono ?_
        rintro e w1 ⟨rfl, hb1⟩
        have hd1 : Below w1.heap.size w1 w1.drew := (Below.refl _ _).drew
        have hkeep : ∀ u, Below w1.heap.size w1 u → u.cell? ⟨pb, 0, none⟩ = some (.slice (some ⟨ob, 0, none⟩) m.list.length cap) ∧ u.cell? ⟨ob, i, none⟩ = some (.pointer (some ⟨db, 0, none⟩)) := fun u hu => by
          have hwu := hb1.trans (hu.mono hb1.size)
          exact ⟨(hwu.cell (p := ⟨pb, 0, none⟩) pl).trans HK.out.1, (hwu.cell (p := ⟨ob, i, none⟩) ol).trans HK.out.2⟩
        have hf2 := (HFI.out w1.drew (hb1.trans (hd1.mono hb1.size))).mono (R' := fun e w' => e = .returned (.int .i64 (j : Int)) ∧ Below w1.heap.size w1 w' ∧ (w'.cell? ⟨pb, 0, none⟩ = some (.slice (some ⟨ob, 0, none⟩) m.list.length cap) ∧ w'.cell? ⟨ob, i, none⟩ = some (.pointer (some ⟨db, 0, none⟩)))) (by
          rintro e w' ⟨rfl, hb⟩
          have hb' := hd1.trans hb
          exact ⟨rfl, hb', hkeep _ hb'⟩)
        have hg2 : ∀ u, Below w1.heap.size w1 u → Calls Try.prog 81 #[.pointer (some ⟨db, 0, none⟩), .int .i64 j] u fun e w' => (∃ v', e = .returned v' ∧ Bs u F v' slot) ∧ u = w' := fun u hu => HGET.out u (hb1.trans (hu.mono hb1.size))
        have ho2 : ∀ u v1, Below w1.heap.size w1 u → Bs u F v1 slot → Calls Try.prog 80 #[v1] u fun e w' => ∃ bv, e = .returned (.tuple #[.int .i64 s, .int .i64 p, bv, .bool true]) ∧ Bs w' F bv b ∧ Below w1.heap.size w1 w' ∧ (w'.cell? ⟨pb, 0, none⟩ = some (.slice (some ⟨ob, 0, none⟩) m.list.length cap) ∧ w'.cell? ⟨ob, i, none⟩ = some (.pointer (some ⟨db, 0, none⟩))) := fun u v1 hu hv => by
          refine (ropen_some hv (by omega) HO.out).mono ?_
          rintro e w' ⟨bv, rfl, hbv, hb⟩
          have hb' := hu.trans (hb.mono hu.size)
          exact ⟨bv, rfl, hbv, hb', hkeep _ hb'⟩
        obtain ⟨k0, k1⟩ := hkeep w1 (Below.refl _ _)
        have HF2 := Lib.hid hf2; have HG2 := Lib.hid hg2; have HO2 := Lib.hid ho2; have HB1 := Lib.hid hb1
        clear hf2 hg2 ho2 hkeep hb1 hd1
        go_wp2
        go_region_held3 (fun w' => w'.cell? ⟨pb, 0, none⟩ = some (.slice (some ⟨ob, 0, none⟩) m.list.length cap) ∧ w'.cell? ⟨ob, i, none⟩ = some (.pointer (some ⟨db, 0, none⟩))) (go_keep) ((first | (go_at_call 76; refine HF2.out.mono ?_; rintro e w3 ⟨rfl, hb3, q0, q1⟩) | (go_at_call 81; refine (HG2.out _ hb3).mono ?_; rintro e w4 ⟨⟨v4, rfl, hv4⟩, rfl⟩) | (go_at_call 80; refine (HO2.out _ _ hb3 hv4).mono ?_; rintro e w5 ⟨bv, rfl, hbv, hb5, q2, q3⟩)))
        have HBV := Lib.hid hbv; have HB5 := Lib.hid (HB1.out.trans (hb5.mono HB1.out.size))
        clear hb3 hv4 hbv hb5 q0 q1 q2 q3
        go_wp2
        go_ret2
        exact ⟨_, rfl, HBV.out, HB5.out⟩
end Go.Proofs.Fr

namespace Go.Proofs.Fr
open Go.RowKit Go.Proofs.Fl

set_option maxHeartbeats 2000000 in
set_option maxRecDepth 100000 in
theorem rerase_any {w : World} {F : Nat → Prop} {pb : Nat} {m : PM} (h : PoolAt w F pb m) (hk : m.calm) (n S K : Int) :
    Calls Try.prog 36 #[.pointer (some ⟨pb, 0, none⟩), .int .i64 n, .int .i64 S, .int .i64 K] w fun e w' => e = .returned (.int .i64 (m.erase n S K).1) ∧ PStep w F pb (m.erase n S K).2 w' := by
  obtain ⟨lv, dbs, G, h⟩ := h
  have hu := ruse_any h n
  rcases use_cases m n with h1 | h1 | ⟨h1, i, rfl, hi, hlo⟩
  · have er : m.erase n S K = (1, m) := by unfold PM.erase; rw [h1]; rfl
    rw [er]
    rw [h1] at hu
    have HU := Lib.hid hu
    have R := Lib.hid (h.pstep (Below.refl _ _))
    clear hu h h1 er
    go_enter Try.func36, Try.ntmps36
    go_wp2_with (go_at_call 40; refine HU.out.mono ?_; rintro e w1 ⟨rfl, rfl⟩)
    go_ret
    exact ⟨rfl, R.out⟩
  · have er : m.erase n S K = (8, m) := by unfold PM.erase; rw [h1]; rfl
    rw [er]
    rw [h1] at hu
    have HU := Lib.hid hu
    have R := Lib.hid (h.pstep (Below.refl _ _))
    clear hu h h1 er
    go_enter Try.func36, Try.ntmps36
    go_wp2_with (go_at_call 40; refine HU.out.mono ?_; rintro e w1 ⟨rfl, rfl⟩)
    go_ret
    exact ⟨rfl, R.out⟩
  · rw [h1] at hu
    have HU := Lib.hid hu
    have hld : m.erase i S K = match (m.get i).find S K with | none => (7, m) | some j => m.write i j [] := by
      unfold PM.erase; rw [h1]; rfl
    rw [hld]
    by_cases hS : S < 0
    · rw [find_neg (m.get i) K hS]
      have R := Lib.hid (h.pstep (Below.refl _ _))
      clear hu h h1 hld
      go_enter Try.func36, Try.ntmps36
      go_wp2_with (go_at_call 40; refine HU.out.mono ?_; rintro e w1 ⟨rfl, rfl⟩)
      go_ret
      exact ⟨rfl, R.out⟩
    · cases hff : (m.get i).find S K with
      | none =>
        have hfi := rfind_shard h i hi (hk i hi) S K (by omega)
        rw [hff] at hfi
        have HF := Lib.hid (show Calls Try.prog 76 #[.pointer (some ⟨pb, 0, none⟩), .int .i64 i, .int .i64 S, .int .i64 K] w fun e w' => e = .returned (.int .i64 (-1)) ∧ Below w.heap.size w w' from hfi)
        have HH := Lib.hid h
        clear hu h h1 hld hff hfi
        go_enter Try.func36, Try.ntmps36
        go_wp2_with (first | (go_at_call 40; refine HU.out.mono ?_; rintro e w1 ⟨rfl, rfl⟩) | (go_at_call 76; refine HF.out.mono ?_; rintro e w1 ⟨rfl, hb1⟩))
        go_ret
        exact ⟨rfl, HH.out.pstep hb1⟩
      | some j =>
        have hjc := find_lt hff
        have hj0 : ¬ (j : Int) < 0 := by omega
        have hki := hk i hi
        have hfi := rfind_shard h i hi (hk i hi) S K (by omega)
        rw [hff] at hfi
        have HFI := Lib.hid (show Calls Try.prog 76 #[.pointer (some ⟨pb, 0, none⟩), .int .i64 i, .int .i64 S, .int .i64 K] w fun e w' => e = .returned (.int .i64 (j : Int)) ∧ Below w.heap.size w w' from hfi)
        have HH := Lib.hid h; have HFF := Lib.hid hff
        clear hu h h1 hld hff hfi
        go_enter Try.func36, Try.ntmps36
        go_wp2_with (go_at_call 40; refine HU.out.mono ?_; rintro e w1 ⟨rfl, rfl⟩)
        refine HFI.out.mono ?_
        rintro e w1 ⟨rfl, hb1⟩
        have HB1 := Lib.hid hb1
        clear hb1
        have h1 := HH.out.kept (Mod.of_below (fun _ => False) HB1.out) (fun _ _ => id)
        have hbu := rpool_burn h1
        have HBU := Lib.hid hbu
        clear h1 hbu
        go_wp2_with (fail)
        refine HBU.out.mono ?_
        rintro e w2 ⟨rfl, hm2, h2⟩
        have hmF : Mod F w w2 := (Mod.of_below F HB1.out).trans (hm2.mono fun k _ e => e ▸ HH.out.fpb)
        cases hbn : m.burn.1 with
        | false =>
          have er : m.write i j [] = (9, m.burn.2) := by unfold PM.write; rw [hbn]; rfl
          have ER := Lib.hid er
          have R := Lib.hid (PStep.same h2 hmF)
          clear h2 hm2 hmF hbn er HBU
          go_wp2
          go_ret
          show _ = Ending.returned (.int .i64 ((m.write i j []).1 : Nat)) ∧ PStep w F pb (m.write i j []).2 _
          rw [ER.out]
          exact ⟨rfl, R.out⟩
        | true =>
          have er : m.write i j [] = (0, m.burn.2.setD i ((m.get i).put j [])) := by unfold PM.write; rw [hbn]; rfl
          have ER := Lib.hid er
          have hi2 : i < m.burn.2.list.length := by rw [burn_list]; exact hi
          have hg2 : m.burn.2.get i = m.get i := burn_get m i
          obtain ⟨ob, cap, rfl, k0, k1, g0, g1, ol, pl, obp⟩ := h2.open_ i hi2
          rw [burn_list] at k0
          have hkeep : ∀ u, Below w2.heap.size w2 u → u.cell? ⟨pb, 0, none⟩ = some (.slice (some ⟨ob, 0, none⟩) m.list.length cap) ∧ u.cell? ⟨ob, i, none⟩ = some (.pointer (some ⟨dbs.getD i 0, 0, none⟩)) := fun u hu =>
            ⟨(hu.cell (p := ⟨pb, 0, none⟩) pl).trans k0, (hu.cell (p := ⟨ob, i, none⟩) ol).trans k1⟩
          have hd2 : Below w2.heap.size w2 w2.drew := (Below.refl _ _).drew
          have hf2 := (rfind_shard (h2.kept (Mod.of_below (fun _ => False) hd2) (fun _ _ => id)) i hi2 (by rw [hg2]; exact hki) S K (by omega)).mono (R' := fun e w' => e = .returned (.int .i64 (j : Int)) ∧ Below w2.heap.size w2 w' ∧ (w'.cell? ⟨pb, 0, none⟩ = some (.slice (some ⟨ob, 0, none⟩) m.list.length cap) ∧ w'.cell? ⟨ob, i, none⟩ = some (.pointer (some ⟨dbs.getD i 0, 0, none⟩)))) (by
            rw [hg2, HFF.out]
            rintro e w' ⟨rfl, hb⟩
            have hb' := hd2.trans hb
            exact ⟨rfl, hb', hkeep _ hb'⟩)
          have hpt : ∀ u, Below w2.heap.size w2 u → Calls Try.prog 78 #[.pointer (some ⟨dbs.getD i 0, 0, none⟩), .int .i64 j, .slice none 0 0] u fun e w' => e = .returned (.int .i64 0) ∧ PStep w F pb (m.burn.2.setD i ((m.get i).put j [])) w' ∧ (w'.cell? ⟨pb, 0, none⟩ = some (.slice (some ⟨ob, 0, none⟩) m.list.length cap) ∧ w'.cell? ⟨ob, i, none⟩ = some (.pointer (some ⟨dbs.getD i 0, 0, none⟩))) := fun u hu => by
            have hu2 := h2.kept (Mod.of_below (fun _ => False) hu) (fun _ _ => id)
            have hau := hu2.at_ i hi2
            rw [show m.burn.2.list.getD i dNone = m.get i from burn_get m i] at hau
            refine (rdrive_put hau j hjc hki (Bs.nil u (fun _ => True)) (by simp)).mono ?_
            rintro e w' ⟨rfl, hs⟩
            have hp := hu2.drive i hi2 _ hs
            obtain ⟨q0, q1⟩ := hkeep u hu
            have hus := hu.size
            exact ⟨rfl, PStep.of HH.out.here (hmF.trans (Mod.of_below F hu)) hp, (hs.mod.cell (p := ⟨pb, 0, none⟩) (Nat.lt_of_lt_of_le pl hus) g1).trans q0, (hs.mod.cell (p := ⟨ob, i, none⟩) (Nat.lt_of_lt_of_le ol hus) g0).trans q1⟩
          have HPT := Lib.hid hpt; have HF2 := Lib.hid hf2
          have hii : (i : Int) < (m.list.length : Int) := by omega
          generalize dbs.getD i 0 = db at *
          clear hpt hf2 hkeep hd2 h2 hm2 hmF hbn er HBU hg2
          go_wp2
          go_region_held3 (fun w' => w'.cell? ⟨pb, 0, none⟩ = some (.slice (some ⟨ob, 0, none⟩) m.list.length cap) ∧ w'.cell? ⟨ob, i, none⟩ = some (.pointer (some ⟨db, 0, none⟩))) (go_keep) ((first | (go_at_call 76; refine HF2.out.mono ?_; rintro e w3 ⟨rfl, hb3, q0, q1⟩) | (go_at_call 78; refine (HPT.out _ hb3).mono ?_; rintro e w4 ⟨rfl, hs4, q2, q3⟩)))
          have R := Lib.hid hs4
          clear hs4 hb3 q0 q1 q2 q3
          go_wp2
          go_ret
          show _ = Ending.returned (.int .i64 ((m.write i j []).1 : Nat)) ∧ PStep w F pb (m.write i j []).2 _
          rw [ER.out]
          exact ⟨rfl, R.out⟩

set_option maxHeartbeats 2000000 in
set_option maxRecDepth 100000 in
theorem rflush_any {w : World} {F : Nat → Prop} {pb : Nat} {m : PM} (h : PoolAt w F pb m) (hk : m.calm) (n : Int) :
    Calls Try.prog 37 #[.pointer (some ⟨pb, 0, none⟩), .int .i64 n] w fun e w' => e = .returned (.int .i64 (m.flush n).1) ∧ PStep w F pb (m.flush n).2 w' := by
  obtain ⟨lv, dbs, G, h⟩ := h
  have hu := ruse_any h n
  rcases use_cases m n with h1 | h1 | ⟨h1, i, rfl, hi, hlo⟩
  · have er : m.flush n = (1, m) := by unfold PM.flush; rw [h1]; rfl
    rw [er]
    rw [h1] at hu
    have HU := Lib.hid hu
    have R := Lib.hid (h.pstep (Below.refl _ _))
    clear hu h h1 er
    go_enter Try.func37, Try.ntmps37
    go_wp2_with (go_at_call 40; refine HU.out.mono ?_; rintro e w1 ⟨rfl, rfl⟩)
    go_ret
    exact ⟨rfl, R.out⟩
  · have er : m.flush n = (8, m) := by unfold PM.flush; rw [h1]; rfl
    rw [er]
    rw [h1] at hu
    have HU := Lib.hid hu
    have R := Lib.hid (h.pstep (Below.refl _ _))
    clear hu h h1 er
    go_enter Try.func37, Try.ntmps37
    go_wp2_with (go_at_call 40; refine HU.out.mono ?_; rintro e w1 ⟨rfl, rfl⟩)
    go_ret
    exact ⟨rfl, R.out⟩
  · rw [h1] at hu
    have HU := Lib.hid hu
    have hki := hk i hi
    have hld : m.flush i = if m.burn.1 then (0, m.burn.2.setD i ((m.get i).keep fun _ => true)) else (9, m.burn.2) := by
      unfold PM.flush; rw [h1]; rfl
    have HLD := Lib.hid hld
    have hbu := rpool_burn h
    have HBU := Lib.hid hbu; have HH := Lib.hid h
    clear hu h h1 hld hbu
    go_enter Try.func37, Try.ntmps37
    go_wp2_with (go_at_call 40; refine HU.out.mono ?_; rintro e w1 ⟨rfl, rfl⟩)
    refine HBU.out.mono ?_
    rintro e w2 ⟨rfl, hm2, h2⟩
    have hmF : Mod F w w2 := hm2.mono fun k _ e => e ▸ HH.out.fpb
    cases hbn : m.burn.1 with
    | false =>
      have ER := Lib.hid (show m.flush i = (9, m.burn.2) by rw [HLD.out, hbn]; rfl)
      have R := Lib.hid (PStep.same h2 hmF)
      clear h2 hm2 hmF hbn HBU
      go_wp2
      go_ret
      rw [ER.out]
      exact ⟨rfl, R.out⟩
    | true =>
      have ER := Lib.hid (show m.flush i = (0, m.burn.2.setD i ((m.get i).keep fun _ => true)) by rw [HLD.out, hbn]; rfl)
      have hi2 : i < m.burn.2.list.length := by rw [burn_list]; exact hi
      obtain ⟨ob, cap, rfl, k0, k1, g0, g1, ol, pl, obp⟩ := h2.open_ i hi2
      rw [burn_list] at k0
      have hau := h2.at_ i hi2
      rw [show m.burn.2.list.getD i dNone = m.get i from burn_get m i] at hau
      have hfl := (rdrive_flush hau hlo hki).mono (R' := fun e w' => e = .returned (.int .i64 0) ∧ PStep w F pb (m.burn.2.setD i ((m.get i).keep fun _ => true)) w') (by
        rintro e w' ⟨rfl, hs⟩
        exact ⟨rfl, PStep.of HH.out.here hmF (h2.drive i hi2 _ hs)⟩)
      have HFL := Lib.hid hfl
      have hii : (i : Int) < (m.list.length : Int) := by omega
      generalize dbs.getD i 0 = db at *
      clear hfl h2 hm2 hmF hbn HBU hau
      go_wp2_with (fail)
      refine HFL.out.mono ?_
      rintro e w4 ⟨rfl, hs4⟩
      have R := Lib.hid hs4
      clear hs4
      go_wp2
      go_ret
      rw [ER.out]
      exact ⟨rfl, R.out⟩
end Go.Proofs.Fr

namespace Go.Proofs.Fr
open Go.RowKit Go.Proofs.Fl

/-- What lasts in each slot of a drive that is not lost. -/
theorem DriveAt.slots {w : World} {F : Nat → Prop} {db : Nat} {d : DM} (h : DriveAt w F db d) (hl : d.lost = false) : ∃ lb, w.cell? ⟨db, 0, none⟩ = some (.slice (some ⟨lb, 0, none⟩) d.cap d.cap) ∧ lb < w.heap.size ∧ db < w.heap.size ∧
    ∀ j, j < d.cap → ∃ a c, w.cell? ⟨lb, j, none⟩ = some (.slice a (d.lasts.getD j []).length c) ∧ Bs w F (.slice a (d.lasts.getD j []).length c) (d.lasts.getD j []) ∧ (d.lasts.getD j []).length ≤ 64 := by
  rcases h.is with ⟨h1, _⟩ | ⟨h1, lb, ov, lvs, ovs, hv⟩
  · rw [h1] at hl; cases hl
  · refine ⟨lb, blk_cell hv.blk rfl, h.here lb hv.flb, h.here db hv.fdb, fun j hj => ?_⟩
    obtain ⟨hb, h64⟩ := hv.at_ j hj
    obtain ⟨a, c, e⟩ := hb.shape
    have hc : w.cell? ⟨lb, j, none⟩ = some (lvs.getD j undef) := blk_cell hv.row (by
      have : j < lvs.length := by rw [hv.len]; exact hj
      simp [List.getD_eq_getElem?_getD, this])
    rw [e] at hc hb
    exact ⟨a, c, hc, hb.mono (fun b _ h => h.1), h64⟩

set_option maxHeartbeats 2000000 in
set_option maxRecDepth 100000 in
theorem rlasts_any {w : World} {F : Nat → Prop} {pb : Nat} {m : PM} (h : PoolAt w F pb m) (n S K : Int) :
    Calls Try.prog 41 #[.pointer (some ⟨pb, 0, none⟩), .int .i64 n, .int .i64 S, .int .i64 K] w fun e w' => e = .returned (.bool (m.lasts n S K)) ∧ Below w.heap.size w w' := by
  obtain ⟨lv, dbs, G, h⟩ := h
  have hu := ruse_any h n
  by_cases h0 : m.use n = 0
  · obtain ⟨i, rfl, hi, hlo⟩ : ∃ i : Nat, n = i ∧ i < m.list.length ∧ (m.get i).lost = false := by
      rcases use_cases m n with h1 | h1 | ⟨h1, h2⟩
      · omega
      · omega
      · exact h2
    have hla : m.lasts i S K = (m.get i).lastsB S K := by unfold PM.lasts; rw [if_pos (by omega)]; rfl
    rw [hla]
    have hU : ∀ u, Below w.heap.size w u → Calls Try.prog 40 #[.pointer (some ⟨pb, 0, none⟩), .int .i64 i] u fun e w' => e = .returned (.int .i64 0) ∧ u = w' := fun u hu => by
      have := ruse_any (h.kept (Mod.of_below (fun _ => False) hu) (fun _ _ => id)) i
      rw [h0] at this
      exact this
    obtain ⟨ob, cap, rfl, k0, k1, g0, g1, ol, pl, obp⟩ := h.open_ i hi
    have hat := h.at_ i hi
    change DriveAt w (G i) (dbs.getD i 0) (m.get i) at hat
    obtain ⟨lb, q0, ll, dl, hsl⟩ := hat.slots hlo
    have hcl := hat.cap_le
    have hii : (i : Int) < (m.list.length : Int) := by omega
    unfold DM.lastsB
    generalize m.get i = d at *
    generalize dbs.getD i 0 = db at *
    have HU := Lib.hid hU; have HK := Lib.hid (And.intro k0 (And.intro k1 q0)); have HSL := Lib.hid hsl
    clear hu h h0 hla hU k0 k1 q0 hsl hat hlo g0 g1 obp
    go_enter Try.func41, Try.ntmps41
    go_wp2
    go_loopw [9] (fun i wr => ∃ k : Nat, k ≤ d.cap ∧ i = .int .i64 k ∧ (∀ j, j < k → (fun j => hasB S K (d.lasts.getD j [])) j = false) ∧ Below w.heap.size w wr) (fun i _ => d.cap - (intOf i).toNat)
    case atStart => exact ⟨0, by omega, rfl, by omega, Below.refl _ _⟩
    case round =>
      obtain ⟨k, hkc, rfl, hq, hb⟩ := hrel
      have HQ := Lib.hid hq; clear hq
      have k0 := (hb.cell (p := ⟨pb, 0, none⟩) pl).trans HK.out.1
      have k1 := (hb.cell (p := ⟨ob, i, none⟩) ol).trans HK.out.2.1
      have q0 := (hb.cell (p := ⟨db, 0, none⟩) dl).trans HK.out.2.2
      have hUr := HU.out wr hb
      have HUR := Lib.hid hUr
      have HB := Lib.hid hb
      clear hUr hb
      by_cases hlt : k < d.cap
      · have hkk : (k : Int) < (d.cap : Int) := by omega
        obtain ⟨sa, sc, s1, s2, s3⟩ := HSL.out k hlt
        have c1 := (HB.out.cell (p := ⟨lb, k, none⟩) ll).trans s1
        have b1 := s2.below HB.out
        generalize hsv : d.lasts.getD k [] = sl at *
        clear s1 s2
        cases ho : openF sl with
        | none =>
          have hqk : (fun j => hasB S K (d.lasts.getD j [])) k = false := by show hasB S K (d.lasts.getD k []) = false; rw [hsv]; simp [hasB, ho]
          have HQK := Lib.hid hqk
          have hop := ropen_none b1 (by omega) ho
          have HOP := Lib.hid hop
          clear hqk hop b1 ho hsv
          go_wp2_with (first | (go_at_call 40; refine HUR.out.mono ?_; rintro e w1 ⟨rfl, rfl⟩) | (go_at_call 80; refine HOP.out.mono ?_; rintro e w2 ⟨rfl, hb2⟩))
          have HB2 := Lib.hid (HB.out.trans (hb2.mono HB.out.size))
          clear hb2
          go_roundw
          case rel => exact ⟨k + 1, by omega, by go_num, fun j hj => by
            by_cases e : j = k
            · subst e; exact HQK.out
            · exact HQ.out j (by omega), HB2.out⟩
          case measure => simp [intOf]; omega
        | some r =>
          obtain ⟨s, p, b⟩ := r
          have hqe : (fun j => hasB S K (d.lasts.getD j [])) k = (((s : Int) == S) && ((p : Int) == K)) := by show hasB S K (d.lasts.getD k []) = _; rw [hsv]; simp [hasB, ho]
          have HQE := Lib.hid hqe
          have hop := ropen_some b1 (by omega) ho
          have HOP := Lib.hid hop
          clear hqe hop b1 ho hsv
          by_cases hm : (s : Int) = S ∧ (p : Int) = K
          · obtain ⟨rfl, rfl⟩ := hm
            have hqk : (fun j => hasB s p (d.lasts.getD j [])) k = true := by rw [HQE.out]; simp
            have HQK := Lib.hid hqk
            clear hqk
            go_wp2_with (first | (go_at_call 40; refine HUR.out.mono ?_; rintro e w1 ⟨rfl, rfl⟩) | (go_at_call 80; refine HOP.out.mono ?_; rintro e w2 ⟨bv, rfl, hbv, hb2⟩))
            have HB2 := Lib.hid (HB.out.trans (hb2.mono HB.out.size))
            clear hb2 hbv
            go_ret
            exact ⟨ret_bool (by rw [firstIn_some hlt HQK.out HQ.out]; rfl), HB2.out⟩
          · have hqk : (fun j => hasB S K (d.lasts.getD j [])) k = false := by
              rw [HQE.out]
              rw [Bool.eq_false_iff]
              intro h
              simp only [Bool.and_eq_true, beq_iff_eq] at h
              exact hm h
            have HQK := Lib.hid hqk
            clear hqk
            by_cases hs : (s : Int) = S
            · have hp : ¬ (p : Int) = K := fun h => hm ⟨hs, h⟩
              have hsb : ((s : Int) == S) = true := by simp [hs]
              have hpb : ((p : Int) == K) = false := by simp [hp]
              clear hm hs
              go_wp2_with (first | (go_at_call 40; refine HUR.out.mono ?_; rintro e w1 ⟨rfl, rfl⟩) | (go_at_call 80; refine HOP.out.mono ?_; rintro e w2 ⟨bv, rfl, hbv, hb2⟩))
              have HB2 := Lib.hid (HB.out.trans (hb2.mono HB.out.size))
              clear hb2 hbv
              go_roundw
              case rel => exact ⟨k + 1, by omega, by go_num, fun j hj => by
                by_cases e : j = k
                · subst e; exact HQK.out
                · exact HQ.out j (by omega), HB2.out⟩
              case measure => simp [intOf]; omega
            · have hsb : ((s : Int) == S) = false := by simp [hs]
              clear hm
              go_wp2_with (first | (go_at_call 40; refine HUR.out.mono ?_; rintro e w1 ⟨rfl, rfl⟩) | (go_at_call 80; refine HOP.out.mono ?_; rintro e w2 ⟨bv, rfl, hbv, hb2⟩))
              have HB2 := Lib.hid (HB.out.trans (hb2.mono HB.out.size))
              clear hb2 hbv
              go_roundw
              case rel => exact ⟨k + 1, by omega, by go_num, fun j hj => by
                by_cases e : j = k
                · subst e; exact HQK.out
                · exact HQ.out j (by omega), HB2.out⟩
              case measure => simp [intOf]; omega
      · obtain rfl : k = d.cap := by omega
        go_wp2_with (go_at_call 40; refine HUR.out.mono ?_; rintro e w1 ⟨rfl, rfl⟩)
        go_ret
        exact ⟨ret_bool (by rw [firstIn_none HQ.out]; rfl), HB.out⟩
  · have hla : m.lasts n S K = false := by
      unfold PM.lasts
      by_cases hn : 0 ≤ n ∧ n < m.list.length
      · rw [if_pos hn]
        unfold PM.use at h0
        rw [if_pos hn] at h0
        have hlo : (m.get n.toNat).lost = true := by
          cases hl : (m.list.getD n.toNat dNone).lost with
          | true => exact hl
          | false => rw [hl] at h0; simp at h0
        have hc := (h.at_ n.toNat (by omega)).lost_cap hlo
        change (m.get n.toNat).cap = 0 at hc
        unfold DM.lastsB
        rw [hc]; rfl
      · rw [if_neg hn]
    rw [hla]
    generalize m.use n = u at *
    have HU := Lib.hid hu
    have h0i : ¬ (u : Int) = 0 := by omega
    clear hu h hla h0
    go_enter Try.func41, Try.ntmps41
    go_wp2
    go_loop [9] (fun i => i = .int .i64 0) (fun _ => 0)
    case atStart => rfl
    case round =>
      subst hrel
      go_wp2_with (go_at_call 40; refine HU.out.mono ?_; rintro e w1 ⟨rfl, rfl⟩)
      go_ret
      exact ⟨rfl, Below.refl _ _⟩
end Go.Proofs.Fr

namespace Go.Proofs.Fr
open Go.RowKit Go.Proofs.Fl

set_option maxHeartbeats 2000000 in
set_option maxRecDepth 100000 in
theorem rheld_any {w : World} {F : Nat → Prop} {pb : Nat} {m : PM} (h : PoolAt w F pb m) (hk : m.calm) (n : Int) : Calls Try.prog 43 #[.pointer (some ⟨pb, 0, none⟩), .int .i64 n] w (HeldV w (m.held n)) := by
  obtain ⟨lv, dbs, G, h⟩ := h
  have hu := ruse_any h n
  by_cases h0 : m.use n = 0
  · obtain ⟨i, rfl, hi, hlo⟩ : ∃ i : Nat, n = i ∧ i < m.list.length ∧ (m.get i).lost = false := by
      rcases use_cases m n with h1 | h1 | ⟨h1, h2⟩
      · omega
      · omega
      · exact h2
    have hla : m.held i = (m.get i).held := by unfold PM.held; rw [if_pos (by omega)]; rfl
    rw [hla]
    rw [h0] at hu
    have hki := hk i hi
    obtain ⟨ob, cap, rfl, k0, k1, g0, g1, ol, pl, obp⟩ := h.open_ i hi
    have hat := h.at_ i hi
    change DriveAt w (G i) (dbs.getD i 0) (m.get i) at hat
    obtain ⟨sa, sc, q0, q2⟩ := hat.cells
    have hle := hat.get_le
    have hcl := hat.cap_le
    have dl := World.block_lt_of_cell? w _ q0
    have hii : (i : Int) < (m.list.length : Int) := by omega
    unfold DM.held
    generalize m.get i = d at *
    generalize dbs.getD i 0 = db at *
    have HU := Lib.hid hu; have HK := Lib.hid (And.intro k0 (And.intro k1 q0)); have HAT := Lib.hid hat; have HLE := Lib.hid hle
    clear h h0 hla hu hat hlo g0 g1 obp q2 hle
    go_enter Try.func43, Try.ntmps43
    go_wp2_with (go_at_call 40; refine HU.out.mono ?_; rintro e w1 ⟨rfl, rfl⟩)
    clear k0 k1 q0
    go_loopw [5, 6] (fun v i wr => ∃ k : Nat, k ≤ d.cap ∧ i = .int .i64 k ∧ wr.ownsRow w.heap.size 99 2 v (d.heldTo k).length (hcells (d.heldTo k)) ∧ Below w.heap.size w wr) (fun _ i _ => d.cap - (intOf i).toNat)
    case atStart => exact ⟨0, by omega, rfl, World.ownsRow_nil _ _ _ _, Below.refl _ _⟩
    case round =>
      obtain ⟨k, hkc, rfl, ho, hb⟩ := hrel
      have k0 := (hb.cell (p := ⟨pb, 0, none⟩) pl).trans HK.out.1
      have k1 := (hb.cell (p := ⟨ob, i, none⟩) ol).trans HK.out.2.1
      have q0 := (hb.cell (p := ⟨db, 0, none⟩) dl).trans HK.out.2.2
      have hhl := heldTo_le d k
      obtain ⟨oa, on_, oc, rfl⟩ := own_shape ho
      have HON := Lib.hid (own_len ho)
      by_cases hlt : k < d.cap
      · have hkk : (k : Int) < (d.cap : Int) := by omega
        have hg := rdrive_get (HAT.out.below hb) k hlt hki
        have h64 := HLE.out k hlt
        have HG := Lib.hid hg; have HB := Lib.hid hb; have HO := Lib.hid ho
        clear hg hb ho
        cases hop : openF (d.get k) with
        | none =>
          have e1 : d.heldTo (k + 1) = d.heldTo k := by simp [DM.heldTo, hop]
          have HOP := Lib.hid hop; have E1 := Lib.hid e1
          clear hop e1
          go_wp2_with (fail)
          refine HG.out.mono ?_
          rintro e w1 ⟨⟨v1, rfl, hv1⟩, rfl⟩
          obtain ⟨ao1, c1, rfl⟩ := hv1.shape
          go_wp2_with (go_at_call 80; refine (ropen_none hv1 (by omega) HOP.out).mono ?_; rintro e w2 ⟨rfl, hb2⟩)
          have HB2 := Lib.hid (HB.out.trans (hb2.mono HB.out.size))
          have HO2 := Lib.hid (own_below HO.out hb2)
          clear hb2 hv1
          go_roundw
          case rel => exact ⟨k + 1, by omega, by go_num, by rw [E1.out]; exact HO2.out, HB2.out⟩
          case measure => simp [intOf]; omega
        | some r =>
          obtain ⟨s, p, b⟩ := r
          have e1 : d.heldTo (k + 1) = d.heldTo k ++ [(s, p)] := by simp [DM.heldTo, hop]
          have HOP := Lib.hid hop; have E1 := Lib.hid e1
          clear hop e1
          go_wp2_with (fail)
          refine HG.out.mono ?_
          rintro e w1 ⟨⟨v1, rfl, hv1⟩, rfl⟩
          obtain ⟨ao1, c1, rfl⟩ := hv1.shape
          go_wp2_with (first | (go_at_call 80; refine (ropen_some hv1 (by omega) HOP.out).mono ?_; rintro e w2 ⟨bv, rfl, hbv, hb2⟩; have hs2 := (HB.out.trans (hb2.mono HB.out.size)).size; have HB2 := Lib.hid (HB.out.trans (hb2.mono HB.out.size)); have HO2 := Lib.hid (own_below HO.out hb2); clear hb2 hv1 hbv) | (at_builtin; refine wpList_app_new rfl _ _ _ rfl E34 w.heap.size _ 1 HO2.out rfl rfl rfl (by intro u hu; simp at hu; rcases hu with rfl | rfl <;> rfl) (by omega) (by decide) hs2 ?_))
          intro v' w5 ho5 hg5 _
          have hb5 := Grew.new HB2.out hs2 hg5 (fun g hg => (HO2.out.lt g hg).1)
          have ho5' : w5.ownsRow w.heap.size 99 2 v' (d.heldTo (k + 1)).length (hcells (d.heldTo (k + 1))) := by
            rw [E1.out, hcells_snoc]; simpa using ho5
          have HB5 := Lib.hid hb5; have HO5 := Lib.hid ho5'
          clear ho5 hg5 hb5 ho5'
          go_wp2
          go_roundw
          case rel => exact ⟨k + 1, by omega, by go_num, HO5.out, HB5.out⟩
          case measure => simp [intOf]; omega
      · obtain rfl : k = d.cap := by omega
        have hp : Prs wr (Fresh w) (.slice oa on_ oc) (d.heldTo d.cap) := Prs.of_own ho _ (fun g hg => (ho.lt g hg).1)
        have HP := Lib.hid hp; have HB := Lib.hid hb
        clear ho hp hb
        go_wp2
        go_ret
        exact ⟨_, rfl, HP.out, HB.out⟩
  · have hla : m.held n = [] := by
      unfold PM.held
      by_cases hn : 0 ≤ n ∧ n < m.list.length
      · rw [if_pos hn]
        unfold PM.use at h0
        rw [if_pos hn] at h0
        have hlo : (m.get n.toNat).lost = true := by
          cases hl : (m.list.getD n.toNat dNone).lost with
          | true => exact hl
          | false => rw [hl] at h0; simp at h0
        have hc := (h.at_ n.toNat (by omega)).lost_cap hlo
        change (m.get n.toNat).cap = 0 at hc
        unfold DM.held
        rw [hc]; rfl
      · rw [if_neg hn]
    rw [hla]
    generalize m.use n = u at *
    have HU := Lib.hid hu
    have h0i : ¬ (u : Int) = 0 := by omega
    clear hu h hla h0
    go_enter Try.func43, Try.ntmps43
    go_wp2_with (go_at_call 40; refine HU.out.mono ?_; rintro e w1 ⟨rfl, rfl⟩)
    go_ret
    exact ⟨_, rfl, ⟨none, 0, rfl, by simp⟩, Below.refl _ _⟩

theorem neq_pair (a b c d : Int) (w : World) : (binOp .neq 99 (.agg #[.int .i64 a, .int .i64 b]) (.agg #[.int .i64 c, .int .i64 d])).run Try.prog w = .ok (.bool (!(a == c && b == d))) w := by
  obtain ⟨i0, hi⟩ : ∃ i, Try.prog.info? 3 = some i := Option.isSome_iff_exists.1 (by kernel_rfl : (Try.prog.info? 3).isSome = true)
  simp only [binOp]
  simp [Op.equal, Op.maxDepth]
  rw [run_equalIn_array w 9999 _ _ Try.underlying99 hi, cells3]
  simp only [List.range_succ, List.range_zero, List.nil_append, List.cons_append, Op.eqItems, Sem.run_bind, Nat.mul_one, part0, Result.andThen_ok, eq_int 9998]
  cases (a == c) <;> cases h : (b == d) <;> simp [part1, eq_int 9998, h]

set_option maxHeartbeats 1000000 in
set_option maxRecDepth 100000 in
theorem held_same {S T : Nat → Prop} {va vb : Value} {l : List (Nat × Nat)} {w : World} (hA : Prs w S va l) (hB : Prs w T vb l) (hl : l.length ≤ 1000000) :
    Calls Try.prog 42 #[va, vb] w fun e w' => e = .returned (.bool true) ∧ ∃ n, w' = w.drewN n := by
  obtain ⟨aa, ca, rfl, ha⟩ := hA
  obtain ⟨ab, cb, rfl, hb⟩ := hB
  have HA := Lib.hid ha; have HB := Lib.hid hb
  have hq := fun a b w => neq_pair a b a b w
  clear ha hb
  go_enter Try.func42, Try.ntmps42
  go_wp2
  go_loopw [5] (fun i wr => ∃ j : Nat, j ≤ l.length ∧ i = .int .i64 j ∧ ∃ n, wr = w.drewN n) (fun i _ => l.length - (intOf i).toNat)
  case atStart => exact ⟨0, by omega, rfl, 0, rfl⟩
  case round =>
    obtain ⟨j, hj, rfl, n, rfl⟩ := hrel
    by_cases hlt : j < l.length
    · obtain ⟨b1, rfl, _, _, hc1⟩ := HA.out (by omega)
      obtain ⟨b2, rfl, _, _, hc2⟩ := HB.out (by omega)
      obtain ⟨x1, x2⟩ := hc1 j hlt
      obtain ⟨y1, y2⟩ := hc2 j hlt
      have x1 : (w.drewN n).cell? ⟨b1, j * 2, none⟩ = _ := x1
      have x2 : (w.drewN n).cell? ⟨b1, j * 2 + 1, none⟩ = _ := x2
      have y1 : (w.drewN n).cell? ⟨b2, j * 2, none⟩ = _ := y1
      have y2 : (w.drewN n).cell? ⟨b2, j * 2 + 1, none⟩ = _ := y2
      generalize l.getD j (0, 0) = x at *
      obtain ⟨xs, xp⟩ := x
      simp only at x1 x2 y1 y2
      obtain ⟨wa, hwa⟩ : ∃ wa, wa = w.drewN n := ⟨_, rfl⟩
      rw [← hwa] at x1 x2 y1 y2 ⊢
      have HWA := Lib.hid hwa
      clear hwa hc1 hc2
      go_wp2
      go_quiet (fail)
      go_wp2
      go_roundw
      case rel => exact ⟨j + 1, by omega, by go_num, n + nq, by rw [HWA.out, World.drewN_drewN]⟩
      case measure => simp [intOf]; omega
    · obtain rfl : j = l.length := by omega
      go_wp2
      go_ret
      exact ⟨rfl, n, rfl⟩
end Go.Proofs.Fr

namespace Go.Proofs.Fr
open Go.RowKit Go.Proofs.Fl

theorem rot_ref (x i : Nat) (hx : x ≤ 18446744073709551615) (_hi : i < 12) : bits BinOp.or IntKind.u64 ((x : Int) / 2 ^ (7 * i % 64)) (IntKind.u64.wrap ((x : Int) * 2 ^ (64 - 7 * i % 64))) = (rotN x (turnS i) : Int) := by
  have hn : 7 * i % 64 < 64 := Nat.mod_lt _ (by decide)
  unfold turnS rotN
  generalize 7 * i % 64 = n at *
  have h1 : (x : Int) / 2 ^ n = ((x / 2 ^ n : Nat) : Int) := by simp
  have h2 : IntKind.u64.wrap ((x : Int) * 2 ^ (64 - n)) = ((x * 2 ^ (64 - n) % 18446744073709551616 : Nat) : Int) := by
    simp [IntKind.wrap, IntKind.bits, IntKind.signed]
  rw [h1, h2, u64_or_nat _ _ (Nat.lt_of_le_of_lt (Nat.div_le_self _ _) (by omega)) (Nat.mod_lt _ (by decide))]
  by_cases h0 : n = 0
  · subst h0
    congr 1
    show x / 2 ^ 0 ||| x * 2 ^ 64 % 18446744073709551616 = x * 2 ^ 0 % 18446744073709551616 ||| x / 2 ^ 64
    have e1 : x / 2 ^ 64 = 0 := Nat.div_eq_of_lt (by omega)
    have e2 : x * 2 ^ 64 % 18446744073709551616 = 0 := Nat.mul_mod_left _ _
    have e3 : x * 2 ^ 0 % 18446744073709551616 = x := by rw [Nat.pow_zero, Nat.mul_one]; exact Nat.mod_eq_of_lt (by omega)
    rw [e1, e2, e3, Nat.pow_zero, Nat.div_one]
  · have e : (64 - n) % 64 = 64 - n := Nat.mod_eq_of_lt (by omega)
    rw [e, show 64 - (64 - n) = n by omega, Nat.or_comm]

def CrashI (w : World) (F : Nat → Prop) (pb : Nat) (lv : Value) (dbs : List Nat) (m : PM) (x k : Nat) (wr : World) : Prop :=
  ∃ F' G', (∀ b, F' b → F b ∨ w.heap.size ≤ b) ∧ PoolIn wr F' pb lv dbs G' (m.crashTo x k) ∧ Mod F w wr

set_option maxHeartbeats 1000000 in
set_option maxRecDepth 100000 in
theorem rcrash_any {w : World} {F : Nat → Prop} {pb : Nat} {m : PM} (h : PoolAt w F pb m) (hk : m.calm) (x : Nat) (hx : x ≤ 18446744073709551615) :
    Calls Try.prog 38 #[.pointer (some ⟨pb, 0, none⟩), .int .u64 x] w fun e w' => e = .returned (.tuple #[]) ∧ PStep w F pb (m.crash x) w' := by
  obtain ⟨lv, dbs, G, h⟩ := h
  have hFh := Lib.hid h.here
  have hfp := h.fpb
  have hfew := h.few
  obtain ⟨ao, ln, cap, rfl⟩ := own_shape h.own
  obtain rfl := own_len h.own
  have h0 : w.cell? ⟨pb, 0, none⟩ = some _ := blk_cell h.blk rfl
  have HH := Lib.hid h
  have HK := Lib.hid hk
  have HX := Lib.hid hx
  clear h hk hx
  go_enter Try.func38, Try.ntmps38
  go_wp2
  clear h0
  go_loopw [4] (fun i wr => ∃ k : Nat, k ≤ m.list.length ∧ i = .int .i64 k ∧ CrashI w F pb (.slice ao m.list.length cap) dbs m x k wr)
    (fun i _ => m.list.length - (intOf i).toNat)
  case atStart => exact ⟨0, by omega, rfl, F, G, fun b hb => .inl hb, HH.out, Mod.refl _ _⟩
  case round =>
    obtain ⟨k, hkc, rfl, F', G', hF', hP, hm⟩ := hrel
    have elen := crashTo_len m x k
    by_cases hlt : k < m.list.length
    · have hi1 : k < (m.crashTo x k).list.length := by rw [elen]; exact hlt
      obtain ⟨ao', cap', ob, e1, rfl, hcell⟩ := hP.cell k hi1
      injection e1 with e1 e2 e3
      subst e1
      have k0 : wr.cell? ⟨pb, 0, none⟩ = some (.slice (some ⟨ob, 0, none⟩) m.list.length cap) := blk_cell hP.blk rfl
      have hat := hP.at_ k hi1
      have hdr := rdrive_crash hat (rotN x (turnS k)) (rotN_le _ _ HX.out) (by
        have := HK.out k hlt
        change ((m.crashTo x k).get k).loose.length ≤ _
        rw [crashTo_get m x k k (by omega), if_neg (by omega)]; exact this)
      have hd := fun d' w' => hP.drive2 k hi1 d' (w' := w')
      have hrot := rot_ref x k HX.out (by omega)
      have hn : 7 * k % 64 < 64 := Nat.mod_lt _ (by decide)
      have hni : (7 * (k : Int)) % 64 = ((7 * k % 64 : Nat) : Int) := by omega
      have HD := Lib.hid hd; have HDR := Lib.hid hdr; have HM := Lib.hid hm; have HF' := Lib.hid hF'
      have hkk : (k : Int) < (m.list.length : Int) := by omega
      clear hd hdr hP hat hm hF' elen e2 e3 hi1
      generalize 7 * k % 64 = n at *
      have hpe : ({ m.crashTo x k with list := (m.crashTo x k).list.set k (((m.crashTo x k).list.getD k dNone).keep (crashSel (rotN x (turnS k)))) } : PM) = m.crashTo x (k + 1) := rfl
      generalize rotN x (turnS k) = y at *
      have HPE := Lib.hid hpe
      clear hpe
      generalize dbs.getD k 0 = db at *
      go_wp2_with (fail)
      refine HDR.out.mono ?_
      rintro e w1 ⟨rfl, hs⟩
      obtain ⟨hm2, hP2⟩ := HD.out _ _ hs
      have hI : CrashI w F pb (.slice (some ⟨ob, 0, none⟩) m.list.length cap) dbs m x (k + 1) w1 := by
        have hsz := HM.out.size
        refine ⟨_, _, fun b hb => ?_, HPE.out ▸ hP2, HM.out.then hm2 fun i hi h => ?_⟩
        · rcases hb with hb | hb
          · exact HF'.out b hb
          · exact .inr (by omega)
        · rcases HF'.out i h with h | h
          · exact h
          · omega
      have HI := Lib.hid hI
      clear hs hm2 hP2 hI
      go_wp2
      go_roundw
      case rel => exact ⟨k + 1, by omega, by go_num, HI.out⟩
      case measure => simp [intOf]; omega
    · obtain rfl : k = m.list.length := by omega
      have hb0 := hP.blk
      have k0 : wr.cell? ⟨pb, 0, none⟩ = some _ := blk_cell hP.blk rfl
      have h1 : wr.cell? ⟨pb, 1, none⟩ = some _ := blk_cell hP.blk rfl
      have h2 : wr.cell? ⟨pb, 2, none⟩ = some _ := blk_cell hP.blk rfl
      have f1 := blk_free hP.blk 1
      have f2 := blk_free hP.blk 2
      have HB := Lib.hid hb0
      have HP := Lib.hid hP
      clear hb0 hP
      go_wp2
      go_end0
      refine ⟨rfl, ?_⟩
      have hmm : Mod (fun b => b = pb) wr ((wr.setCell ⟨pb, 1, none⟩ (.int .i64 (-1))).setCell ⟨pb, 2, none⟩ (.bool false)) :=
        ((Mod.refl (fun b => b = pb) wr).setCell (p := ⟨pb, 1, none⟩) (fun _ => rfl) _).setCell (p := ⟨pb, 2, none⟩) (fun _ => rfl) _
      have hbb := blk_set (blk_set HB.out 1 (.int .i64 (-1))) 2 (.bool false)
      have hPP := HP.out.head hmm (-1) false hbb (by decide) (by decide)
      have hsz := hm.size
      have hmF := hm.trans (hmm.mono (T := F) fun _ _ e => e ▸ hfp)
      have hE : ∀ b, F' b → Ext F w ((wr.setCell ⟨pb, 1, none⟩ (.int .i64 (-1))).setCell ⟨pb, 2, none⟩ (.bool false)) b := fun b hb => by
        rcases hF' b hb with h | h
        · exact .inl h
        · exact .inr ⟨h, hPP.here b hb⟩
      exact ⟨hmF, _, dbs, G', { hPP with
        here := Ext.here hFh.out hmF.size
        fpb := hE _ hPP.fpb
        ownF := fun g hg => ⟨hE _ (hPP.ownF g hg).1, (hPP.ownF g hg).2⟩
        sub := fun i b hb => ⟨hE _ (hPP.sub i b hb).1, (hPP.sub i b hb).2⟩ }⟩
end Go.Proofs.Fr

namespace Go.Proofs.Fr
open Go.RowKit Go.Proofs.Fl

set_option maxHeartbeats 1000000 in
set_option maxRecDepth 100000 in
theorem frame0_any (s p : Nat) (hs : s < 4611686018427387904) (hp : p < 256) (ad : Addr) (c : Nat) (b : Bytes) (hb0 : b = []) (w : World) :
    Calls Try.prog 66 #[.int .i64 s, .int .i64 p, .slice (some ad) 0 c] w fun e w' => ∃ v', e = .returned v' ∧ Bs w' (Fresh w) v' (frame s p b) ∧ Below w.heap.size w w' := by
  subst hb0
  rw [frame, List.take_nil]
  have hc0 : ¬ (c : Int) < 0 := by omega
  have hD : ∀ u : World, DatB u (fun _ => True) (.slice (some ad) 0 c) [] := fun u => .inr ⟨rfl, ad, c, rfl⟩
  have HD := Lib.hid hD
  clear hD
  go_enter Try.func66, Try.ntmps66
  go_wp2_with (fail)
  refine (put4 w.heap.size _ 0 [] s w (by decide) (Nat.le_refl _) (World.ownsRow_nil _ _ _ _)).mono ?_
  rintro e w1 ⟨v1, rfl, hown1, hg1⟩
  have hb1 : Below w.heap.size w w1 := Grew.new (Below.refl _ _) (Nat.le_refl _) hg1 (fun g hg => by simp [Value.ownBlock] at hg)
  go_wp2_with (at_builtin; refine wpList_app_new rfl _ _ _ rfl E28 w.heap.size _ 2 hown1 rfl rfl rfl (by intro u hu; simp at hu; rcases hu with rfl | rfl <;> rfl) (by omega) (by decide) hb1.size ?_)
  intro v2 w2 hown2 hg2 _
  have hg12 := hg1.trans hg2
  have hb2 : Below w.heap.size w w2 := Grew.new (Below.refl _ _) (Nat.le_refl _) hg12 (fun g hg => by simp [Value.ownBlock] at hg)
  clear hown1 hg1 hg2 hb1
  go_wp2_with (at_builtin; refine wpList_app_dat rfl _ _ _ rfl E28 w.heap.size hown2 (HD.out _) rfl rfl (by simp) hb2.size ?_)
  intro v3 w3 hown3 hg3
  have hg13 := hg12.trans hg3
  have hb3 : Below w.heap.size w w3 := Grew.new (Below.refl _ _) (Nat.le_refl _) hg13 (fun g hg => by simp [Value.ownBlock] at hg)
  have hown4 : w3.ownsRow w.heap.size tU8 1 v3 (6 + 0) (u8s (frameHead s p [])) := by
    rw [← frame_two s p 0 [] hp (by omega) rfl]; simpa [show (max (min (0 : Int) 50) 0) = 0 from by decide] using hown3
  clear hown3 hown2 hg3 hg12 hb2
  have HL3 := Lib.hid (show (frameHead s p []).length = 6 + 0 by simp [frameHead])
  have hBs4 := Bs.of_own hown4 (Fresh w) (fun _ h _ => h)
  have hwr := fun x : UInt32 => wrap64_u32 x
  go_wp2_with (go_at_call 102; refine (crc_any hBs4 (by rw [HL3.out]; omega)).mono ?_; rintro e w4 ⟨rfl, rfl⟩)
  refine (put4 w.heap.size _ _ _ (crc (frameHead s p [])).toNat w3 (by omega) hb3.size hown4).mono ?_
  rintro e w5 ⟨v5, rfl, hown5, hg5⟩
  have hg15 := hg13.trans hg5
  have hb5 : Below w.heap.size w w5 := Grew.new (Below.refl _ _) (Nat.le_refl _) hg15 (fun g hg => by simp [Value.ownBlock] at hg)
  clear hg13 hg5 hb3 hown4 hBs4
  go_wp2
  go_ret
  exact ⟨_, rfl, Bs.of_own hown5 (Fresh w) (fun _ h _ => h), hb5⟩

set_option maxHeartbeats 1000000 in
set_option maxRecDepth 100000 in
theorem rframe0_any (s p : Nat) (hs : s < 4611686018427387904) (hp : p < 256) (ad : Addr) (c : Nat) (b : Bytes) (hb0 : b = []) (w : World) :
    Calls Try.prog 79 #[.int .i64 s, .int .i64 p, .slice (some ad) 0 c] w fun e w' => ∃ v', e = .returned v' ∧ Bs w' (Fresh w) v' (frame s p b) ∧ Below w.heap.size w w' := by
  subst hb0
  rw [frame, List.take_nil]
  have hD : ∀ u : World, DatB u (fun _ => True) (.slice (some ad) 0 c) [] := fun u => .inr ⟨rfl, ad, c, rfl⟩
  have HD := Lib.hid hD
  clear hD
  go_enter Try.func79, Try.ntmps79
  go_wp2_with (fail)
  refine (rnum_any s (by omega) w).mono ?_
  rintro e w1 ⟨v1, rfl, hown1, hb1⟩
  go_wp2_with (at_builtin; refine wpList_app_new rfl _ _ _ rfl E28 w.heap.size _ 2 hown1 rfl rfl rfl (by intro u hu; simp at hu; rcases hu with rfl | rfl <;> rfl) (by omega) (by decide) hb1.size ?_)
  intro v2 w2 hown2 hg2 _
  have hb2 : Below w.heap.size w w2 := Grew.new hb1 hb1.size hg2 (fun g hg => (hown1.lt g hg).1)
  clear hown1 hg2 hb1
  go_wp2_with (at_builtin; refine wpList_app_dat rfl _ _ _ rfl E28 w.heap.size hown2 (HD.out _) rfl rfl (by simp) hb2.size ?_)
  intro v3 w3 hown3 hg3
  have hb3 : Below w.heap.size w w3 := Grew.new hb2 hb2.size hg3 (fun g hg => (hown2.lt g hg).1)
  have hown4 : w3.ownsRow w.heap.size tU8 1 v3 (6 + 0) (u8s (frameHead s p [])) := by
    rw [← frame_two s p 0 [] hp (by omega) rfl]; simpa using hown3
  clear hown3 hown2 hg3 hb2
  have HL3 := Lib.hid (show (frameHead s p []).length = 6 + 0 by simp [frameHead])
  have hBs4 := Bs.of_own hown4 (Fresh w) (fun _ h _ => h)
  have hwr := fun x : UInt32 => wrap64_u32 x
  have hb3s := hb3.size
  go_wp2_with (go_at_call 110; refine (rcrc_any hBs4 (by rw [HL3.out]; omega)).mono ?_; rintro e w4 ⟨rfl, rfl⟩)
  have hcl := (crc (frameHead s p [])).toNat_lt
  refine (rnum_any (crc (frameHead s p [])).toNat (by omega) w3).mono ?_
  rintro e w5 ⟨v5, rfl, hown5, hb5⟩
  have hB5 := Bs.of_own hown5 (fun _ => True) (fun _ _ _ => trivial)
  have hown6 := own_below hown4 hb5
  have hb35 := hb3.trans (hb5.mono hb3s)
  obtain ⟨v5a, v5c, rfl⟩ := hB5.shape
  clear hown4 hBs4 hown5 hb5 hcl
  go_wp2_with (at_builtin; refine wpList_app_bs rfl _ _ _ rfl E28 w.heap.size hown6 hB5 rfl rfl (by rw [putBE_length]; omega) hb35.size ?_)
  intro v6 w6 hown7 hg7 _
  have hb6 : Below w.heap.size w w6 := Grew.new hb35 hb35.size hg7 (fun g hg => (hown6.lt g hg).1)
  have hown8 : w6.ownsRow w.heap.size tU8 1 v6 (6 + 0 + 4) (u8s (frameHead s p [] ++ putBE (crc (frameHead s p [])).toNat 4)) := by
    rw [u8s_append]; simpa using hown7
  have HO8 := Lib.hid hown8; have HB6 := Lib.hid hb6
  clear hown8 hown7 hg7 hb6 hown6 hB5 hb35 hb3
  go_wp2
  go_ret
  exact ⟨_, rfl, Bs.of_own HO8.out (Fresh w) (fun _ h _ => h), HB6.out⟩
end Go.Proofs.Fr
namespace Go.Proofs.Fl
open Go.RowKit
open Go.Proofs.Fr (frame0_any)

set_option maxHeartbeats 2000000 in
set_option maxRecDepth 100000 in
/-- A walk of Store behind its first tests. -/
theorem store_go0 {w : World} {F : Nat → Prop} {pb : Nat} {lv : Value} {dbs : List Nat} {G : Nat → Nat → Prop} {m : PM} (h : PoolIn w F pb lv dbs G m) (i : Nat) (hi : i < m.list.length) (hk : (m.get i).loose.length ≤ 1000000000)
    (S K : Nat) (hS : S ≤ 1073741824) (hK : K ≤ 255) {ad : Addr} {cd : Nat} {b : Bytes} (hb0 : b = []) (r : Nat × PM)
    (hr : r = if (m.get i).lost then (8, m) else match ((m.get i).find S K).orElse (fun _ => (m.get i).free1) with | none => (3, m) | some j => m.write i j (frame S K b)) :
    Calls Try.prog 20 #[.pointer (some ⟨pb, 0, none⟩), .int .i64 i, .int .i64 S, .int .i64 K, .slice (some ad) 0 cd] w fun e w' => e = .returned (.int .i64 r.1) ∧ PStep w F pb r.2 w' := by
  have h30 := h.sel i hi
  have hus := pool_usable ⟨lv, dbs, G, h⟩ (i : Int)
  have hue : m.use (i : Int) = if (m.get i).lost then 8 else 0 := by
    unfold PM.use; rw [if_pos (by omega)]; rfl
  rw [hue] at hus
  have hFh := h.here
  have g1 : ¬ ((S : Int) < 0) := by omega
  have g2 : ¬ ((1073741824 : Int) < (S : Int)) := by omega
  have g3 : ¬ ((K : Int) < 0) := by omega
  have g4 : ¬ ((255 : Int) < (K : Int)) := by omega
  have HS := Lib.hid hS; have HK := Lib.hid hK; have HB0 := Lib.hid hb0
  clear hS hK hb0
  have hfi := pool_find h i hi hk S K
  have hpb := h.here pb h.fpb
  change Calls Try.prog 62 _ w fun e w' => e = .returned (.int .i64 (idxV ((m.get i).find S K))) ∧ Below w.heap.size w w' at hfi
  have HH := Lib.hid h; have HF := Lib.hid hfi; have HR := Lib.hid hr; have HHI := Lib.hid hi; have HKK := Lib.hid hk
  clear h hfi hr hue hi hk
  cases hlo : (m.get i).lost with
  | true =>
    have er : r = (8, m) := by rw [HR.out, hlo]; rfl
    subst er
    rw [hlo] at hus
    have R := Lib.hid (HH.out.pstep (Below.refl _ _))
    clear hlo HR
    go_enter Try.func20, Try.ntmps20
    go_wp2_with (first | (go_at_call 30; refine h30.mono ?_; rintro e w1 ⟨rfl, rfl⟩) | (go_at_call 61; refine hus.mono ?_; rintro e w1 ⟨rfl, rfl⟩))
    go_ret
    exact ⟨rfl, R.out⟩
  | false =>
    rw [hlo] at hus
    cases hff : (m.get i).find S K with
    | some j =>
      have er : r = m.write i j (frame S K b) := by rw [HR.out, hlo, hff]; rfl
      subst er
      have hjc := find_lt hff
      rw [hff] at HF
      clear hlo hff HR
      have hj0 : ¬ ((j : Int) < 0) := by omega
      go_enter Try.func20, Try.ntmps20
      go_wp2_with (first | (go_at_call 30; refine h30.mono ?_; rintro e w1 ⟨rfl, rfl⟩) | (go_at_call 61; refine hus.mono ?_; rintro e w1 ⟨rfl, rfl⟩) | (go_at_call 62; refine HF.out.mono ?_; rintro e w1 ⟨rfl, hb1⟩; simp only [idxV]))
      refine (frame0_any S K (Nat.lt_of_le_of_lt HS.out (by decide)) (Nat.lt_of_le_of_lt HK.out (by decide)) ad cd b HB0.out _).mono ?_
      rintro e w3 ⟨v3, rfl, hv3, hb3⟩
      have hbb : Below w.heap.size w w3 := hb1.trans (hb3.mono hb1.size)
      have hw := pool_write (HH.out.kept (Mod.of_below (fun _ => False) hbb) fun _ _ => id) i j HHI.out hjc HKK.out hv3 (fun b hb e => by have h1 := hb1.size; subst e; simp only [Fresh] at hb; omega) (Nat.le_trans (frame_len _ _ _) (by decide))
      have HW := Lib.hid hw; have HBB := Lib.hid hbb
      clear hw hv3 hb1 hb3 hbb
      go_wp2_with (fail)
      refine HW.out.mono ?_
      rintro e w4 ⟨rfl, hs⟩
      have R := Lib.hid (PStep.of hFh (Mod.of_below F HBB.out) hs)
      clear hs
      go_wp2
      go_ret
      exact ⟨rfl, R.out⟩
    | none =>
      cases hfr : (m.get i).free1 with
      | none =>
        have er : r = (3, m) := by rw [HR.out, hlo, hff, hfr]; rfl
        subst er
        rw [hff] at HF
        have hfe := fun (w1 : World) (hb1 : Below w.heap.size w w1) => pool_free1 (HH.out.kept (Mod.of_below (fun _ => False) hb1) fun _ _ => id) i HHI.out HKK.out
        rw [hfr] at hfe
        have HFE := Lib.hid hfe
        clear hlo hff HR hfr hfe
        go_enter Try.func20, Try.ntmps20
        go_wp2_with (first | (go_at_call 30; refine h30.mono ?_; rintro e w1 ⟨rfl, rfl⟩) | (go_at_call 61; refine hus.mono ?_; rintro e w1 ⟨rfl, rfl⟩) | (go_at_call 62; refine HF.out.mono ?_; rintro e w1 ⟨rfl, hb1⟩; simp only [idxV]))
        refine (HFE.out _ hb1).mono ?_
        rintro e w2 ⟨rfl, hb2⟩
        simp only [idxV]
        have R := Lib.hid (HH.out.pstep (hb1.trans (hb2.mono hb1.size)))
        clear hb1 hb2
        go_wp2
        go_ret
        exact ⟨rfl, R.out⟩
      | some j =>
        have er : r = m.write i j (frame S K b) := by rw [HR.out, hlo, hff, hfr]; rfl
        subst er
        have hjc := free1_lt hfr
        rw [hff] at HF
        have hfe := fun (w1 : World) (hb1 : Below w.heap.size w w1) => pool_free1 (HH.out.kept (Mod.of_below (fun _ => False) hb1) fun _ _ => id) i HHI.out HKK.out
        rw [hfr] at hfe
        have HFE := Lib.hid hfe
        clear hlo hff HR hfr hfe
        have hj0 : ¬ ((j : Int) < 0) := by omega
        go_enter Try.func20, Try.ntmps20
        go_wp2_with (first | (go_at_call 30; refine h30.mono ?_; rintro e w1 ⟨rfl, rfl⟩) | (go_at_call 61; refine hus.mono ?_; rintro e w1 ⟨rfl, rfl⟩) | (go_at_call 62; refine HF.out.mono ?_; rintro e w1 ⟨rfl, hb1⟩; simp only [idxV]))
        refine (HFE.out _ hb1).mono ?_
        rintro e w2 ⟨rfl, hb2⟩
        simp only [idxV]
        have hb1 := hb1.trans (hb2.mono hb1.size)
        go_wp2_with (fail)
        refine (frame0_any S K (Nat.lt_of_le_of_lt HS.out (by decide)) (Nat.lt_of_le_of_lt HK.out (by decide)) ad cd b HB0.out _).mono ?_
        rintro e w3 ⟨v3, rfl, hv3, hb3⟩
        have hbb : Below w.heap.size w w3 := hb1.trans (hb3.mono hb1.size)
        have hw := pool_write (HH.out.kept (Mod.of_below (fun _ => False) hbb) fun _ _ => id) i j HHI.out hjc HKK.out hv3 (fun b hb e => by have h1 := hb1.size; subst e; simp only [Fresh] at hb; omega) (Nat.le_trans (frame_len _ _ _) (by decide))
        have HW := Lib.hid hw; have HBB := Lib.hid hbb
        clear hw hv3 hb1 hb3 hbb
        go_wp2_with (fail)
        refine HW.out.mono ?_
        rintro e w4 ⟨rfl, hs⟩
        have R := Lib.hid (PStep.of hFh (Mod.of_below F HBB.out) hs)
        clear hs
        go_wp2
        go_ret
        exact ⟨rfl, R.out⟩
end Go.Proofs.Fl
namespace Go.Proofs.Fr
open Go.RowKit Go.Proofs.Fl

set_option maxHeartbeats 2000000 in
set_option maxRecDepth 100000 in
theorem rstore_go0 {w : World} {F : Nat → Prop} {pb : Nat} {lv : Value} {dbs : List Nat} {G : Nat → Nat → Prop} {m : PM} (h : PoolIn w F pb lv dbs G m) (i : Nat) (hi : i < m.list.length) (hk : (m.get i).loose.length ≤ 1000000000) (s k : Nat) (hs : s ≤ 1073741824) (hK : k ≤ 255)
    {ad : Addr} {cd : Nat} {b : Bytes} (hb0 : b = []) (r : Nat × PM)
    (hr : r = if (m.get i).lost then (8, m) else match ((m.get i).find s k).orElse (fun _ => (m.get i).free1) with | none => (3, m) | some j => m.write i j (frame s k b)) :
    Calls Try.prog 33 #[.pointer (some ⟨pb, 0, none⟩), .int .i64 i, .int .i64 s, .int .i64 k, .slice (some ad) 0 cd] w fun e w' => e = .returned (.int .i64 r.1) ∧ PStep w F pb r.2 w' := by
  have hu := ruse_any h i
  have hue : m.use i = if (m.get i).lost then 8 else 0 := by
    unfold PM.use
    rw [if_pos (by omega)]; rfl
  rw [hue] at hu
  have hfi := rfind_shard h i hi hk s k (by omega)
  have hfl : (frame s k b).length ≤ 64 := Nat.le_trans (frame_len _ _ _) (by decide)
  have c2 : ¬ (s : Int) < 0 := by omega
  have c3 : ¬ (1073741824 : Int) < (s : Int) := by omega
  have c4 : ¬ (k : Int) < 0 := by omega
  have c5 : ¬ (255 : Int) < (k : Int) := by omega
  have HB0 := Lib.hid hb0
  clear hb0
  have HH := Lib.hid h; have HF := Lib.hid hfi
  cases hlo : (m.get i).lost with
  | true =>
    have er : r = (8, m) := by rw [hr, hlo]; rfl
    subst er
    rw [hlo] at hu
    have HU := Lib.hid hu
    have R := Lib.hid (h.pstep (Below.refl _ _))
    clear hlo hr hu hue hfi h
    go_enter Try.func33, Try.ntmps33
    go_wp2_with (go_at_call 40; refine HU.out.mono ?_; rintro e w1 ⟨rfl, rfl⟩)
    go_ret
    exact ⟨rfl, R.out⟩
  | false =>
    rw [hlo] at hu
    have HU := Lib.hid hu
    clear hu hue hfi h
    cases hff : (m.get i).find s k with
    | some j =>
      have er : r = m.write i j (frame s k b) := by rw [hr, hlo, hff]; rfl
      have hjc := find_lt hff
      rw [hff] at HF
      have HF2 := Lib.hid (show Calls Try.prog 76 #[.pointer (some ⟨pb, 0, none⟩), .int .i64 i, .int .i64 s, .int .i64 k] w fun e w' => e = .returned (.int .i64 (j : Int)) ∧ Below w.heap.size w w' from HF.out)
      have hj0 : ¬ ((j : Int) < 0) := by omega
      subst er
      clear hlo hff hr HF
      go_enter Try.func33, Try.ntmps33
      go_wp2_with (first | (go_at_call 40; refine HU.out.mono ?_; rintro e w1 ⟨rfl, rfl⟩) | (go_at_call 76; refine HF2.out.mono ?_; rintro e w1 ⟨rfl, hb1⟩))
      have HB1 := Lib.hid hb1
      clear hb1
      have h1 := HH.out.kept (Mod.of_below (fun _ => False) HB1.out) (fun _ _ => id)
      have hbu := rpool_burn h1
      have HBU := Lib.hid hbu
      clear h1 hbu
      go_wp2_with (fail)
      refine HBU.out.mono ?_
      rintro e w2 ⟨rfl, hm2, h2⟩
      have hmF : Mod F w w2 := (Mod.of_below F HB1.out).trans (hm2.mono fun k _ e => e ▸ HH.out.fpb)
      cases hbn : m.burn.1 with
      | false =>
        have er : m.write i j (frame s k b) = (9, m.burn.2) := by unfold PM.write; rw [hbn]; rfl
        have ER := Lib.hid er
        have R := Lib.hid (PStep.same h2 hmF)
        clear h2 hm2 hmF hbn er HBU
        go_wp2
        go_ret
        rw [ER.out]
        exact ⟨rfl, R.out⟩
      | true =>
        have er : m.write i j (frame s k b) = (0, m.burn.2.setD i ((m.get i).put j (frame s k b))) := by unfold PM.write; rw [hbn]; rfl
        have ER := Lib.hid er
        have hi2 : i < m.burn.2.list.length := by rw [burn_list]; exact hi
        obtain ⟨ob, cap, rfl, k0, k1, g0, g1, ol, pl, obp⟩ := h2.open_ i hi2
        have hat := h2.at_ i hi2
        rw [show m.burn.2.list.getD i dNone = m.get i from burn_get m i] at hat
        rw [burn_list] at k0
        have hkeep : ∀ u, Below w2.heap.size w2 u → u.cell? ⟨pb, 0, none⟩ = some (.slice (some ⟨ob, 0, none⟩) m.list.length cap) ∧ u.cell? ⟨ob, i, none⟩ = some (.pointer (some ⟨dbs.getD i 0, 0, none⟩)) := fun u hu =>
          ⟨(hu.cell (p := ⟨pb, 0, none⟩) pl).trans k0, (hu.cell (p := ⟨ob, i, none⟩) ol).trans k1⟩
        have hd2 : Below w2.heap.size w2 w2.drew := (Below.refl _ _).drew
        have hfr := (rframe0_any s k (Nat.lt_of_le_of_lt hs (by decide)) (Nat.lt_of_le_of_lt hK (by decide)) ad cd b HB0.out w2.drew).mono (R' := fun e w' => ∃ v3, e = .returned v3 ∧ Bs w' (Fresh w2) v3 (frame s k b) ∧ Below w2.heap.size w2 w' ∧ (w'.cell? ⟨pb, 0, none⟩ = some (.slice (some ⟨ob, 0, none⟩) m.list.length cap) ∧ w'.cell? ⟨ob, i, none⟩ = some (.pointer (some ⟨dbs.getD i 0, 0, none⟩)))) (by
          rintro e w' ⟨v3, rfl, hv3, hb3⟩
          have hb' := hd2.trans hb3
          exact ⟨v3, rfl, hv3, hb', hkeep _ hb'⟩)
        have HFR := Lib.hid hfr
        have K01 := Lib.hid (And.intro k0 k1)
        have hpt : ∀ u v3, Below w2.heap.size w2 u → Bs u (Fresh w2) v3 (frame s k b) → Calls Try.prog 78 #[.pointer (some ⟨dbs.getD i 0, 0, none⟩), .int .i64 j, v3] u fun e w' => e = .returned (.int .i64 0) ∧ PStep w F pb (m.burn.2.setD i ((m.get i).put j (frame s k b))) w' ∧ (w'.cell? ⟨pb, 0, none⟩ = some (.slice (some ⟨ob, 0, none⟩) m.list.length cap) ∧ w'.cell? ⟨ob, i, none⟩ = some (.pointer (some ⟨dbs.getD i 0, 0, none⟩))) := fun u v3 hu hv3 => by
          have hu2 := h2.kept (Mod.of_below (fun _ => False) hu) (fun _ _ => id)
          have hau := hu2.at_ i hi2
          rw [show m.burn.2.list.getD i dNone = m.get i from burn_get m i] at hau
          refine (rdrive_put hau j hjc hk hv3 hfl).mono ?_
          rintro e w' ⟨rfl, hs⟩
          have hp := hu2.drive i hi2 _ hs
          obtain ⟨q0, q1⟩ := hkeep u hu
          have hus := hu.size
          exact ⟨rfl, PStep.of HH.out.here (hmF.trans (Mod.of_below F hu)) hp, (hs.mod.cell (p := ⟨pb, 0, none⟩) (Nat.lt_of_lt_of_le pl hus) g1).trans q0, (hs.mod.cell (p := ⟨ob, i, none⟩) (Nat.lt_of_lt_of_le ol hus) g0).trans q1⟩
        have HPT := Lib.hid hpt
        have hii : (i : Int) < (m.list.length : Int) := by omega
        generalize (m.get i).put j (frame s k b) = dput at *
        clear hfr hpt hkeep hd2 hat h2 hm2 hmF hbn er HBU k0 k1
        have k0 := K01.out.1
        have k1 := K01.out.2
        generalize dbs.getD i 0 = db at *
        go_wp2
        go_region_held3 (fun w' => w'.cell? ⟨pb, 0, none⟩ = some (.slice (some ⟨ob, 0, none⟩) m.list.length cap) ∧ w'.cell? ⟨ob, i, none⟩ = some (.pointer (some ⟨db, 0, none⟩))) (go_keep) ((first | (go_at_call 79; refine HFR.out.mono ?_; rintro e w3 ⟨v3, rfl, hv3, hb3, q0, q1⟩) | (go_at_call 78; refine (HPT.out _ _ hb3 hv3).mono ?_; rintro e w4 ⟨rfl, hs4, q2, q3⟩)))
        have R := Lib.hid hs4
        clear hs4 hb3 hv3 q0 q1 q2 q3
        go_wp2
        go_ret
        rw [ER.out]
        exact ⟨rfl, R.out⟩
    | none =>
      cases hfr : (m.get i).free1 with
      | none =>
        have er : r = (3, m) := by rw [hr, hlo, hff, hfr]; rfl
        subst er
        rw [hff] at HF
        have HF2 := Lib.hid (show Calls Try.prog 76 #[.pointer (some ⟨pb, 0, none⟩), .int .i64 i, .int .i64 s, .int .i64 k] w fun e w' => e = .returned (.int .i64 (-1)) ∧ Below w.heap.size w w' from HF.out)
        have hfe := fun (w1 : World) (hb1 : Below w.heap.size w w1) => rfind_free (HH.out.kept (Mod.of_below (fun _ => False) hb1) fun _ _ => id) i hi hk
        rw [hfr] at hfe
        have HFE := Lib.hid (show ∀ w1, Below w.heap.size w w1 → Calls Try.prog 76 #[.pointer (some ⟨pb, 0, none⟩), .int .i64 i, .int .i64 (-1), .int .i64 0] w1 fun e w' => e = .returned (.int .i64 (-1)) ∧ Below w1.heap.size w1 w' from hfe)
        clear hlo hff hr hfr hfe HF
        go_enter Try.func33, Try.ntmps33
        go_wp2_with (go_at_call 40; refine HU.out.mono ?_; rintro e w1 ⟨rfl, rfl⟩)
        refine HF2.out.mono ?_
        rintro e w1 ⟨rfl, hb1⟩
        go_wp2_with (fail)
        refine (HFE.out _ hb1).mono ?_
        rintro e w2 ⟨rfl, hb2⟩
        have R := Lib.hid (HH.out.pstep (hb1.trans (hb2.mono hb1.size)))
        clear hb1 hb2
        go_wp2
        go_ret
        exact ⟨rfl, R.out⟩
      | some j =>
        have er : r = m.write i j (frame s k b) := by rw [hr, hlo, hff, hfr]; rfl
        have hjc := free1_lt hfr
        rw [hff] at HF
        have HF2 := Lib.hid (show Calls Try.prog 76 #[.pointer (some ⟨pb, 0, none⟩), .int .i64 i, .int .i64 s, .int .i64 k] w fun e w' => e = .returned (.int .i64 (-1)) ∧ Below w.heap.size w w' from HF.out)
        have hfe := fun (w1 : World) (hb1 : Below w.heap.size w w1) => rfind_free (HH.out.kept (Mod.of_below (fun _ => False) hb1) fun _ _ => id) i hi hk
        rw [hfr] at hfe
        have HFE := Lib.hid (show ∀ w1, Below w.heap.size w w1 → Calls Try.prog 76 #[.pointer (some ⟨pb, 0, none⟩), .int .i64 i, .int .i64 (-1), .int .i64 0] w1 fun e w' => e = .returned (.int .i64 (j : Int)) ∧ Below w1.heap.size w1 w' from hfe)
        have hj0 : ¬ ((j : Int) < 0) := by omega
        subst er
        clear hlo hff hr hfr hfe HF
        go_enter Try.func33, Try.ntmps33
        go_wp2_with (go_at_call 40; refine HU.out.mono ?_; rintro e w1 ⟨rfl, rfl⟩)
        refine HF2.out.mono ?_
        rintro e w0 ⟨rfl, hb0⟩
        go_wp2_with (fail)
        refine (HFE.out _ hb0).mono ?_
        rintro e w1 ⟨rfl, hb1⟩
        have HB1 := Lib.hid (hb0.trans (hb1.mono hb0.size))
        clear hb0 hb1
        have h1 := HH.out.kept (Mod.of_below (fun _ => False) HB1.out) (fun _ _ => id)
        have hbu := rpool_burn h1
        have HBU := Lib.hid hbu
        clear h1 hbu
        go_wp2_with (fail)
        refine HBU.out.mono ?_
        rintro e w2 ⟨rfl, hm2, h2⟩
        have hmF : Mod F w w2 := (Mod.of_below F HB1.out).trans (hm2.mono fun k _ e => e ▸ HH.out.fpb)
        cases hbn : m.burn.1 with
        | false =>
          have er : m.write i j (frame s k b) = (9, m.burn.2) := by unfold PM.write; rw [hbn]; rfl
          have ER := Lib.hid er
          have R := Lib.hid (PStep.same h2 hmF)
          clear h2 hm2 hmF hbn er HBU
          go_wp2
          go_ret
          rw [ER.out]
          exact ⟨rfl, R.out⟩
        | true =>
          have er : m.write i j (frame s k b) = (0, m.burn.2.setD i ((m.get i).put j (frame s k b))) := by unfold PM.write; rw [hbn]; rfl
          have ER := Lib.hid er
          have hi2 : i < m.burn.2.list.length := by rw [burn_list]; exact hi
          obtain ⟨ob, cap, rfl, k0, k1, g0, g1, ol, pl, obp⟩ := h2.open_ i hi2
          have hat := h2.at_ i hi2
          rw [show m.burn.2.list.getD i dNone = m.get i from burn_get m i] at hat
          rw [burn_list] at k0
          have hkeep : ∀ u, Below w2.heap.size w2 u → u.cell? ⟨pb, 0, none⟩ = some (.slice (some ⟨ob, 0, none⟩) m.list.length cap) ∧ u.cell? ⟨ob, i, none⟩ = some (.pointer (some ⟨dbs.getD i 0, 0, none⟩)) := fun u hu =>
            ⟨(hu.cell (p := ⟨pb, 0, none⟩) pl).trans k0, (hu.cell (p := ⟨ob, i, none⟩) ol).trans k1⟩
          have hd2 : Below w2.heap.size w2 w2.drew := (Below.refl _ _).drew
          have hfr := (rframe0_any s k (Nat.lt_of_le_of_lt hs (by decide)) (Nat.lt_of_le_of_lt hK (by decide)) ad cd b HB0.out w2.drew).mono (R' := fun e w' => ∃ v3, e = .returned v3 ∧ Bs w' (Fresh w2) v3 (frame s k b) ∧ Below w2.heap.size w2 w' ∧ (w'.cell? ⟨pb, 0, none⟩ = some (.slice (some ⟨ob, 0, none⟩) m.list.length cap) ∧ w'.cell? ⟨ob, i, none⟩ = some (.pointer (some ⟨dbs.getD i 0, 0, none⟩)))) (by
            rintro e w' ⟨v3, rfl, hv3, hb3⟩
            have hb' := hd2.trans hb3
            exact ⟨v3, rfl, hv3, hb', hkeep _ hb'⟩)
          have HFR := Lib.hid hfr
          have K01 := Lib.hid (And.intro k0 k1)
          have hpt : ∀ u v3, Below w2.heap.size w2 u → Bs u (Fresh w2) v3 (frame s k b) → Calls Try.prog 78 #[.pointer (some ⟨dbs.getD i 0, 0, none⟩), .int .i64 j, v3] u fun e w' => e = .returned (.int .i64 0) ∧ PStep w F pb (m.burn.2.setD i ((m.get i).put j (frame s k b))) w' ∧ (w'.cell? ⟨pb, 0, none⟩ = some (.slice (some ⟨ob, 0, none⟩) m.list.length cap) ∧ w'.cell? ⟨ob, i, none⟩ = some (.pointer (some ⟨dbs.getD i 0, 0, none⟩))) := fun u v3 hu hv3 => by
            have hu2 := h2.kept (Mod.of_below (fun _ => False) hu) (fun _ _ => id)
            have hau := hu2.at_ i hi2
            rw [show m.burn.2.list.getD i dNone = m.get i from burn_get m i] at hau
            refine (rdrive_put hau j hjc hk hv3 hfl).mono ?_
            rintro e w' ⟨rfl, hs⟩
            have hp := hu2.drive i hi2 _ hs
            obtain ⟨q0, q1⟩ := hkeep u hu
            have hus := hu.size
            exact ⟨rfl, PStep.of HH.out.here (hmF.trans (Mod.of_below F hu)) hp, (hs.mod.cell (p := ⟨pb, 0, none⟩) (Nat.lt_of_lt_of_le pl hus) g1).trans q0, (hs.mod.cell (p := ⟨ob, i, none⟩) (Nat.lt_of_lt_of_le ol hus) g0).trans q1⟩
          have HPT := Lib.hid hpt
          have hii : (i : Int) < (m.list.length : Int) := by omega
          generalize (m.get i).put j (frame s k b) = dput at *
          clear hfr hpt hkeep hd2 hat h2 hm2 hmF hbn er HBU k0 k1
          have k0 := K01.out.1
          have k1 := K01.out.2
          generalize dbs.getD i 0 = db at *
          go_wp2
          go_region_held3 (fun w' => w'.cell? ⟨pb, 0, none⟩ = some (.slice (some ⟨ob, 0, none⟩) m.list.length cap) ∧ w'.cell? ⟨ob, i, none⟩ = some (.pointer (some ⟨db, 0, none⟩))) (go_keep) ((first | (go_at_call 79; refine HFR.out.mono ?_; rintro e w3 ⟨v3, rfl, hv3, hb3, q0, q1⟩) | (go_at_call 78; refine (HPT.out _ _ hb3 hv3).mono ?_; rintro e w4 ⟨rfl, hs4, q2, q3⟩)))
          have R := Lib.hid hs4
          clear hs4 hb3 hv3 q0 q1 q2 q3
          go_wp2
          go_ret
          rw [ER.out]
          exact ⟨rfl, R.out⟩
end Go.Proofs.Fr

import Derived.Test.YtficmalfoeaibaaXX0toX2
import Derived.Test.YtficmalfoeaibaaXS10
import Derived.Test.YtficmalfoeaibaaXU0toU2
import Derived.Deep.RegionHeld3
namespace Go.Proofs.Fl
open Go.RowKit

theorem PoolF.toL0 {w : World} {B : Nat} {K : Nat → Prop} {pb : Nat} {m : PM} (h : PoolF w B K pb m) : PoolL { w with heap := #[] } w pb m := by
  obtain ⟨F, _, h2⟩ := h
  exact ⟨⟨rfl, rfl, rfl, Nat.zero_le _, fun k hk => absurd hk (Nat.not_lt_zero k)⟩, F, fun b _ => Nat.zero_le _, h2⟩
/-- What all contracts of a move ask for. -/
structure MvOk (v : MV) : Prop where
  k1 : 1 ≤ v.k
  k4 : v.k ≤ 4
  m3 : v.m ≤ 3
  ll : v.locs.length = v.k + v.m
  tl : v.target.length = v.k + v.m
def copyM (v : MV) (pm : PM) (a : Nat) : Nat × PM :=
  if (oneM v.k v.m pm 33 v.locs a).2 ≠ 0 then ((oneM v.k v.m pm 33 v.locs a).2, pm) else pm.store (v.target.getD a 0) 33 a (oneM v.k v.m pm 33 v.locs a).1
def verM (v : MV) (pm : PM) (a : Nat) : Nat :=
  if (pm.load (v.target.getD a 0) 33 a).2 ≠ 0 then (pm.load (v.target.getD a 0) 33 a).2 else if (oneM v.k v.m pm 33 v.locs a).2 ≠ 0 then (oneM v.k v.m pm 33 v.locs a).2
  else if (pm.load (v.target.getD a 0) 33 a).1 = (oneM v.k v.m pm 33 v.locs a).1 then 0 else 12
def DoP (w : World) (B : Nat) (K : Nat → Prop) (pb : Nat) (r : Nat × PM) (e : Ending) (w' : World) : Prop := e = .returned (.int .i64 r.1) ∧ PoolF w' B K pb r.2 ∧ Mod (fun b => B ≤ b ∧ ¬ K b) w w'

/-- shard.One of a move's stripe, and what is kept of the move's cells. -/
theorem mv_one {w : World} {B : Nat} {K : Nat → Prop} {pb xb : Nat} {pm : PM} {v : MV} (hP : PoolF w B K pb pm) (hc : pm.calm) (hv : MvOk v) {lv tv pv : Value}
    (hb : w.heap[xb]? = some (.cells #[.int .i64 v.k, .int .i64 v.m, .int .i64 33, .int .i64 0, lv, tv, pv, .int .i64 v.phase, .int .i64 v.at_] 122 (0, 0))) (hL : Ns w K lv v.locs) (a : Nat) :
    Calls Try.prog 49 #[.pointer (some ⟨pb, 0, none⟩), .int .i64 v.k, .int .i64 v.m, .agg #[.int .i64 33, .int .i64 0, lv], .int .i64 a] w fun e w' => ∃ r, e = .returned (.tuple #[r, .int .i64 (oneM v.k v.m pm 33 v.locs a).2]) ∧ Bs w' (Fresh w) r (oneM v.k v.m pm 33 v.locs a).1 ∧ Below w.heap.size w w' ∧
      (w'.cell? ⟨xb, 0, none⟩ = some (.int .i64 v.k) ∧ w'.cell? ⟨xb, 1, none⟩ = some (.int .i64 v.m) ∧ w'.cell? ⟨xb, 2, none⟩ = some (.int .i64 33) ∧ w'.cell? ⟨xb, 3, none⟩ = some (.int .i64 0) ∧ w'.cell? ⟨xb, 4, none⟩ = some lv) := by
  refine (one_any v.k v.m hv.k1 hv.k4 hv.m3 hP.toL0 hc 33 0 lv v.locs hL hv.ll a).mono ?_
  rintro e w' ⟨r, rfl, hr, hbl⟩
  have hb' := (hbl.block _ (blk_lt hb)).trans hb
  exact ⟨r, rfl, hr, hbl, blk_cell hb' rfl, blk_cell hb' rfl, blk_cell hb' rfl, blk_cell hb' rfl, blk_cell hb' rfl⟩

set_option maxHeartbeats 2000000 in
set_option maxRecDepth 100000 in
theorem copy_any {w : World} {B : Nat} {K : Nat → Prop} {pb xb : Nat} {pm : PM} {v : MV} (hP : PoolF w B K pb pm) (hK : ∀ b, K b → b < w.heap.size) (hB : B ≤ w.heap.size) (hc : pm.calm) (hv : MvOk v) (hM : MoveAt w K xb v) (a : Nat) (ha : a < v.k + v.m) :
    Calls Try.prog 120 #[.pointer (some ⟨xb, 0, none⟩), .pointer (some ⟨pb, 0, none⟩), .int .i64 a] w (DoP w B K pb (copyM v pm a)) := by
  obtain ⟨lv, tv, pv, hx, hb, h1, h2, h3⟩ := hM
  have hdr : Mod (fun _ => False) w w.drew := (Mod.refl _ w).drew
  have hone := mv_one (w := w.drew) (hP.move hdr (fun _ h => h.elim) (fun _ h => .inl h)) hc hv hb (Sv.mono (Sv.kept h1 hdr (fun _ _ _ h => h)) (fun b _ h => h.1)) a
  have hcm : copyM v pm a = if (oneM v.k v.m pm 33 v.locs a).2 ≠ 0 then ((oneM v.k v.m pm 33 v.locs a).2, pm) else pm.store (v.target.getD a 0) 33 a (oneM v.k v.m pm 33 v.locs a).1 := rfl
  generalize oneM v.k v.m pm 33 v.locs a = R at *
  generalize copyM v pm a = C at *
  obtain ⟨rb, re⟩ := R
  obtain ⟨k, m, locs, target, places, phase, at_⟩ := v
  have hll := hv.ll
  have htl := hv.tl
  have hk1 := hv.k1
  simp only at hone hcm hb h1 h2 h3 ha hll htl hk1
  clear hv
  obtain ⟨tb, to, tc, rfl, htS, htb, _, htc⟩ := Sv.cellAt h2 (by rw [List.length_map]; omega)
  rw [List.length_map] at htc hb
  have htc' := htc a (by omega)
  rw [show (target.map (Value.int .i64)).getD a undef = .int .i64 (target.getD a 0) from by simp [List.getD_eq_getElem?_getD, List.getElem?_eq_getElem (show a < target.length by omega)]] at htc'
  obtain ⟨la, lc, rfl, _⟩ := Ns.open_ h1
  rw [hll] at hb hone
  rw [htl] at hb
  generalize target.getD a 0 = td at *
  have c0 : w.cell? ⟨xb, 0, none⟩ = some (.int .i64 k) := blk_cell hb rfl
  have c1 : w.cell? ⟨xb, 1, none⟩ = some (.int .i64 m) := blk_cell hb rfl
  have c2 : w.cell? ⟨xb, 2, none⟩ = some (.int .i64 33) := blk_cell hb rfl
  have c3 : w.cell? ⟨xb, 3, none⟩ = some (.int .i64 0) := blk_cell hb rfl
  have c4 : w.cell? ⟨xb, 4, none⟩ = some (.slice la (k + m) lc) := blk_cell hb rfl
  have HONE := Lib.hid hone; have HCM := Lib.hid hcm; have HP := Lib.hid hP; have HB := Lib.hid hb; have HK := Lib.hid hK; have HTC := Lib.hid htc'; have HC := Lib.hid hc
  clear hone hcm hP hb h1 h2 h3 hK htc htc' hc hll htl
  go_enter Try.func120, Try.ntmps120
  go_wp2
  go_region_held3 (fun w' => w'.cell? ⟨xb, 0, none⟩ = some (.int .i64 k) ∧ w'.cell? ⟨xb, 1, none⟩ = some (.int .i64 m) ∧ w'.cell? ⟨xb, 2, none⟩ = some (.int .i64 33) ∧ w'.cell? ⟨xb, 3, none⟩ = some (.int .i64 0) ∧ w'.cell? ⟨xb, 4, none⟩ = some (.slice la (k + m) lc)) (go_keep) ((go_at_call 49; refine HONE.out.mono ?_; rintro e w1 ⟨r, rfl, hr, hb1, q0, q1, q2, q3, q4⟩))
  have hbw : Below w.heap.size w w1 := (Below.refl _ w).drew.trans hb1
  have hs1 := hbw.size
  have hP1 := HP.out.move (K' := K) (Mod.of_below (fun _ => False) hbw) (fun _ h => h.elim) (fun _ h => .inl h)
  by_cases hre : re = 0
  · subst hre
    have hC := HCM.out
    rw [if_neg (by simp)] at hC
    have hd1 : Mod (fun _ => False) w1 w1.drew := (Mod.refl _ w1).drew
    have hst := PF_store (w := w1.drew) (hP1.move (K' := K) hd1 (fun _ h => h.elim) (fun _ h => .inl h)) (fun b h => Nat.lt_of_lt_of_le (HK.out b h) hs1) (Nat.le_trans hB hs1) HC.out td 33 a (hr.kept hd1 (fun _ _ _ h => h))
    rw [← hC] at hst
    have hbx := (hbw.block xb (blk_lt HB.out)).trans HB.out
    have hct := (hbw.cell (p := ⟨tb, to + a, none⟩) htb).trans HTC.out
    have hst2 := hst.mono (R' := fun e w' => e = .returned (.int .i64 C.1) ∧ PoolF w' B K pb C.2 ∧ Mod (fun b => B ≤ b ∧ ¬ K b) w1.drew w' ∧ w'.cell? ⟨xb, 5, none⟩ = some (.slice (some ⟨tb, to, none⟩) (k + m) tc) ∧ w'.cell? ⟨xb, 2, none⟩ = some (.int .i64 33) ∧ w'.cell? ⟨tb, to + a, none⟩ = some (.int .i64 td)) (by
      rintro e w' ⟨rfl, h1, h2⟩
      have hb' := blk_mod h2 (w := w1.drew) hbx (fun h => h.2 hx)
      exact ⟨rfl, h1, h2, blk_cell hb' rfl, blk_cell hb' rfl, (h2.cell (w := w1.drew) (p := ⟨tb, to + a, none⟩) (Nat.lt_of_lt_of_le htb hs1) (fun h => h.2 htS.1)).trans hct⟩)
    have x5 : w1.cell? ⟨xb, 5, none⟩ = some (.slice (some ⟨tb, to, none⟩) (k + m) tc) := blk_cell hbx rfl
    have HST := Lib.hid hst2; have HBW := Lib.hid hbw
    obtain ⟨ra, rc, rfl⟩ := hr.shape
    clear hst hst2 hC HCM hbx hr HONE hP1 hb1 c0 c1 c2 c3 c4 q0 q1 q3 q4 hbw hd1
    have hai : (a : Int) < (k : Int) + (m : Int) := by omega
    go_wp2
    go_region_held3 (fun w' => w'.cell? ⟨xb, 5, none⟩ = some (.slice (some ⟨tb, to, none⟩) (k + m) tc) ∧ w'.cell? ⟨xb, 2, none⟩ = some (.int .i64 33) ∧ w'.cell? ⟨tb, to + a, none⟩ = some (.int .i64 td)) (go_keep) ((go_at_call 20; refine HST.out.mono ?_; rintro e w2 ⟨rfl, hP2, hm2, y5, y2, y6⟩))
    have R : DoP w B K pb C (.returned (.int .i64 C.1)) w2 := ⟨rfl, hP2, (Mod.of_below _ HBW.out.drew).trans hm2⟩
    have HR := Lib.hid R
    clear R hP2 hm2
    go_wp2
    go_ret
    exact HR.out
  · have hC := HCM.out
    rw [if_pos hre] at hC
    subst hC
    have hrei : ¬ (re : Int) = 0 := by omega
    have HP1 := Lib.hid hP1; have HBW := Lib.hid hbw
    clear HCM hP1 hb1 hbw hr q0 q1 q2 q3 q4 c0 c1 c2 c3 c4
    go_wp2
    go_ret
    exact ⟨rfl, HP1.out, Mod.of_below _ HBW.out⟩
end Go.Proofs.Fl

namespace Go.Proofs.Fl
open Go.RowKit

set_option maxHeartbeats 4000000 in
set_option maxRecDepth 100000 in
theorem verify_any {w : World} {B : Nat} {K : Nat → Prop} {pb xb : Nat} {pm : PM} {v : MV} (hP : PoolF w B K pb pm) (hc : pm.calm) (hv : MvOk v) (hM : MoveAt w K xb v) (a : Nat) (ha : a < v.k + v.m) :
    Calls Try.prog 121 #[.pointer (some ⟨xb, 0, none⟩), .pointer (some ⟨pb, 0, none⟩), .int .i64 a] w fun e w' => e = .returned (.int .i64 (verM v pm a)) ∧ Below w.heap.size w w' := by
  obtain ⟨lv, tv, pv, hx, hb, h1, h2, h3⟩ := hM
  have hone := fun (W : World) (hbW : Below w.heap.size w W) => mv_one (w := W) (hP.move (K' := K) (Mod.of_below (fun _ => False) hbW) (fun _ h => h.elim) (fun _ h => .inl h)) hc hv ((hbW.block xb (blk_lt hb)).trans hb) (Sv.mono (Sv.kept h1 (Mod.of_below (fun _ => False) hbW) (fun _ _ _ h => h)) (fun b _ h => h.1)) a
  have hld := L_load2 (hP.move (K' := K) (w' := w.drew) (Mod.of_below (fun _ => False) (Below.refl _ w).drew) (fun _ h => h.elim) (fun _ h => .inl h)).toL0 hc (v.target.getD a 0) 33 a
  have hcm : verM v pm a = if (pm.load (v.target.getD a 0) 33 a).2 ≠ 0 then (pm.load (v.target.getD a 0) 33 a).2 else if (oneM v.k v.m pm 33 v.locs a).2 ≠ 0 then (oneM v.k v.m pm 33 v.locs a).2
    else if (pm.load (v.target.getD a 0) 33 a).1 = (oneM v.k v.m pm 33 v.locs a).1 then 0 else 12 := rfl
  generalize oneM v.k v.m pm 33 v.locs a = R at *
  generalize pm.load (v.target.getD a 0) 33 a = L at *
  generalize verM v pm a = C at *
  obtain ⟨rb, re⟩ := R
  obtain ⟨lb', le⟩ := L
  obtain ⟨k, m, locs, target, places, phase, at_⟩ := v
  have hll := hv.ll
  have htl := hv.tl
  have hk1 := hv.k1
  simp only at hone hld hcm hb h1 h2 h3 ha hll htl hk1
  clear hv
  obtain ⟨tb, to, tc, rfl, htS, htb, _, htc⟩ := Sv.cellAt h2 (by rw [List.length_map]; omega)
  rw [List.length_map] at htc hb
  have htc' := htc a (by omega)
  rw [show (target.map (Value.int .i64)).getD a undef = .int .i64 (target.getD a 0) from by simp [List.getD_eq_getElem?_getD, List.getElem?_eq_getElem (show a < target.length by omega)]] at htc'
  obtain ⟨la, lc, rfl, _⟩ := Ns.open_ h1
  rw [hll] at hb hone
  rw [htl] at hb
  generalize target.getD a 0 = td at *
  have c5 : w.cell? ⟨xb, 5, none⟩ = some (.slice (some ⟨tb, to, none⟩) (k + m) tc) := blk_cell hb rfl
  have c2 : w.cell? ⟨xb, 2, none⟩ = some (.int .i64 33) := blk_cell hb rfl
  have hld2 := hld.mono (R' := fun e w' => ∃ v, e = .returned (.tuple #[v, .int .i64 le]) ∧ Bs w' (Fresh w) v lb' ∧ Below w.heap.size w w' ∧ w'.cell? ⟨xb, 5, none⟩ = some (.slice (some ⟨tb, to, none⟩) (k + m) tc) ∧ w'.cell? ⟨xb, 2, none⟩ = some (.int .i64 33) ∧ w'.cell? ⟨tb, to + a, none⟩ = some (.int .i64 td)) (by
    rintro e w' ⟨v, rfl, h1, h2⟩
    have hbl : Below w.heap.size w w' := (Below.refl _ w).drew.trans h2
    have hb' := (hbl.block _ (blk_lt hb)).trans hb
    exact ⟨v, rfl, h1, hbl, blk_cell hb' rfl, blk_cell hb' rfl, (hbl.cell (p := ⟨tb, to + a, none⟩) htb).trans htc'⟩)
  have HONE := Lib.hid hone; have HLD := Lib.hid hld2; have HCM := Lib.hid hcm; have HB := Lib.hid hb
  have hai : (a : Int) < (k : Int) + (m : Int) := by omega
  have hxl := blk_lt hb
  clear hone hld hld2 hcm hP hb h1 h2 h3 htc hc hll htl
  go_enter Try.func121, Try.ntmps121
  go_wp2
  go_region_held3 (fun w' => w'.cell? ⟨xb, 5, none⟩ = some (.slice (some ⟨tb, to, none⟩) (k + m) tc) ∧ w'.cell? ⟨xb, 2, none⟩ = some (.int .i64 33) ∧ w'.cell? ⟨tb, to + a, none⟩ = some (.int .i64 td)) (go_keep) ((go_at_call 29; refine HLD.out.mono ?_; rintro e w1 ⟨l1, rfl, hl1, hb1, q5, q2, q6⟩))
  by_cases hle : le = 0
  · subst hle
    have hone1 := HONE.out w1.drew (hb1.drew)
    have hB1 := (hb1.block xb hxl).trans HB.out
    have c0 : w1.cell? ⟨xb, 0, none⟩ = some (.int .i64 k) := blk_cell hB1 rfl
    have c1 : w1.cell? ⟨xb, 1, none⟩ = some (.int .i64 m) := blk_cell hB1 rfl
    have c3 : w1.cell? ⟨xb, 3, none⟩ = some (.int .i64 0) := blk_cell hB1 rfl
    have c4 : w1.cell? ⟨xb, 4, none⟩ = some (.slice la (k + m) lc) := blk_cell hB1 rfl
    have HO1 := Lib.hid hone1; have HL1 := Lib.hid hl1; have HB1 := Lib.hid hb1
    obtain ⟨l1a, l1c, rfl⟩ := hl1.shape
    clear hone1 hB1 hl1 hb1 q5 q6 c5 c2 HLD HONE htc'
    go_wp2
    go_region_held3 (fun w' => w'.cell? ⟨xb, 0, none⟩ = some (.int .i64 k) ∧ w'.cell? ⟨xb, 1, none⟩ = some (.int .i64 m) ∧ w'.cell? ⟨xb, 2, none⟩ = some (.int .i64 33) ∧ w'.cell? ⟨xb, 3, none⟩ = some (.int .i64 0) ∧ w'.cell? ⟨xb, 4, none⟩ = some (.slice la (k + m) lc)) (go_keep) ((go_at_call 49; refine HO1.out.mono ?_; rintro e w2 ⟨r, rfl, hr, hb2, p0, p1, p2, p3, p4⟩))
    have hbw2 : Below w.heap.size w w2 := HB1.out.drew.trans (hb2.mono HB1.out.drew.size)
    by_cases hre : re = 0
    · subst hre
      have hl2 : Bs w2 (Fresh w) (.slice l1a lb'.length l1c) lb' := ((HL1.out.kept (Mod.of_below (fun _ => False) (Below.refl _ w1).drew) (fun _ _ _ h => h)).below hb2)
      have heq := equal_any hl2 hr
      have HEQ := Lib.hid heq; have HBW := Lib.hid hbw2
      obtain ⟨ra, rc, rfl⟩ := hr.shape
      clear heq hl2 hr hb2 hbw2 HL1 HB1 HO1 p0 p1 p2 p3 p4 c0 c1 c3 c4 q2
      go_wp2_with (fail)
      refine HEQ.out.mono ?_
      rintro e wy ⟨rfl, rfl⟩
      by_cases hh : lb' = rb
      · have hC := HCM.out
        rw [if_neg (by simp), if_neg (by simp), if_pos hh] at hC
        rw [decide_eq_true hh]
        subst hC
        clear HCM HEQ hh
        go_wp2
        go_ret
        exact ⟨rfl, HBW.out⟩
      · have hC := HCM.out
        rw [if_neg (by simp), if_neg (by simp), if_neg hh] at hC
        rw [decide_eq_false hh]
        subst hC
        clear HCM HEQ hh
        go_wp2
        go_ret
        exact ⟨rfl, HBW.out⟩
    · have hC := HCM.out
      rw [if_neg (by simp), if_pos hre] at hC
      have hrei : ¬ (re : Int) = 0 := by omega
      subst hC
      have HBW := Lib.hid hbw2
      clear HCM hr hb2 hbw2 HL1 HB1 HO1 p0 p1 p2 p3 p4 c0 c1 c3 c4 q2
      go_wp2
      go_ret
      exact ⟨rfl, HBW.out⟩
  · have hC := HCM.out
    rw [if_pos hle] at hC
    have hlei : ¬ (le : Int) = 0 := by omega
    subst hC
    have HB1 := Lib.hid hb1
    clear HCM hl1 hb1 q5 q2 q6 c5 c2 HLD HONE htc'
    go_wp2
    go_ret
    exact ⟨rfl, HB1.out⟩
end Go.Proofs.Fl

namespace Go.Proofs.Fl
open Go.RowKit

def doM (v : MV) (pm : PM) (a : Nat) : Nat × PM := if v.phase = 0 then copyM v pm a else if v.phase = 1 then pm.flush (v.target.getD a 0) else (verM v pm a, pm)
set_option maxHeartbeats 2000000 in
set_option maxRecDepth 100000 in
theorem mvdo_any {w : World} {B : Nat} {K : Nat → Prop} {pb xb : Nat} {pm : PM} {v : MV} (hP : PoolF w B K pb pm) (hK : ∀ b, K b → b < w.heap.size) (hB : B ≤ w.heap.size) (hc : pm.calm) (hv : MvOk v) (hM : MoveAt w K xb v) (a : Nat) (ha : a < v.k + v.m) :
    Calls Try.prog 94 #[.pointer (some ⟨xb, 0, none⟩), .pointer (some ⟨pb, 0, none⟩), .int .i64 a] w (DoP w B K pb (doM v pm a)) := by
  have hco := copy_any hP hK hB hc hv hM a ha
  have hve := verify_any hP hc hv hM a ha
  have hfl := PF_flush hP hK hB hc (v.target.getD a 0)
  have hd : doM v pm a = if v.phase = 0 then copyM v pm a else if v.phase = 1 then pm.flush (v.target.getD a 0) else (verM v pm a, pm) := rfl
  generalize doM v pm a = D at *
  generalize copyM v pm a = C at *
  generalize verM v pm a = V at *
  obtain ⟨lv, tv, pv, hx, hb, h1, h2, h3⟩ := hM
  obtain ⟨k, m, locs, target, places, phase, at_⟩ := v
  have htl := hv.tl
  have hk1 := hv.k1
  simp only at hfl hd hb h1 h2 h3 ha htl hk1
  clear hv
  obtain ⟨tb, to, tc, rfl, htS, htb, _, htc⟩ := Sv.cellAt h2 (by rw [List.length_map]; omega)
  rw [List.length_map] at htc hb
  have htc' := htc a (by omega)
  rw [show (target.map (Value.int .i64)).getD a undef = .int .i64 (target.getD a 0) from by simp [List.getD_eq_getElem?_getD, List.getElem?_eq_getElem (show a < target.length by omega)]] at htc'
  rw [htl] at hb
  generalize target.getD a 0 = td at *
  have c5 : w.cell? ⟨xb, 5, none⟩ = some (.slice (some ⟨tb, to, none⟩) (k + m) tc) := blk_cell hb rfl
  have c7 : w.cell? ⟨xb, 7, none⟩ = some (.int .i64 phase) := blk_cell hb rfl
  have hai : (a : Int) < (k : Int) + (m : Int) := by omega
  have HCO := Lib.hid hco; have HVE := Lib.hid hve; have HFL := Lib.hid hfl; have HD := Lib.hid hd; have HP := Lib.hid hP
  clear hco hve hfl hd hb h1 h2 h3 htc hP htl hK
  by_cases p0 : phase = 0
  · subst p0
    have hd := HD.out
    rw [if_pos rfl] at hd
    subst hd
    clear HD
    go_enter Try.func94, Try.ntmps94
    go_wp2_with (fail)
    refine HCO.out.mono ?_
    rintro e w1 ⟨rfl, hP1, hm1⟩
    have HR := Lib.hid (show DoP w B K pb D (.returned (.int .i64 D.1)) w1 from ⟨rfl, hP1, hm1⟩)
    clear hP1 hm1 HCO HVE HFL
    go_wp2
    go_ret
    exact HR.out
  · by_cases p1 : phase = 1
    · subst p1
      have hd := HD.out
      rw [if_neg (by decide), if_pos rfl] at hd
      rw [← hd] at HFL
      clear HD hd
      go_enter Try.func94, Try.ntmps94
      go_wp2_with (fail)
      refine HFL.out.mono ?_
      rintro e w1 ⟨rfl, hP1, hm1⟩
      have HR := Lib.hid (show DoP w B K pb D (.returned (.int .i64 D.1)) w1 from ⟨rfl, hP1, hm1⟩)
      clear hP1 hm1 HCO HVE HFL
      go_wp2
      go_ret
      exact HR.out
    · have hd := HD.out
      rw [if_neg p0, if_neg p1] at hd
      subst hd
      have q0 : ¬ (phase : Int) = 0 := by omega
      have q1 : ¬ (phase : Int) = 1 := by omega
      clear HD
      go_enter Try.func94, Try.ntmps94
      go_wp2_with (fail)
      refine HVE.out.mono ?_
      rintro e w1 ⟨rfl, hb1⟩
      have HR := Lib.hid (show DoP w B K pb (V, pm) (.returned (.int .i64 V)) w1 from ⟨rfl, HP.out.move (Mod.of_below (fun _ => False) hb1) (fun _ h => h.elim) (fun _ h => .inl h), Mod.of_below _ hb1⟩)
      clear hb1 HCO HVE HFL
      go_wp2
      go_ret
      exact HR.out

theorem mod_drewN {S : Nat → Prop} {w w' : World} (h : Mod S w w') (n : Nat) : Mod S w (w'.drewN n) := ⟨h.os, h.tape, h.output, h.size, h.block⟩
def adv (v : MV) : MV := if v.at_ + 1 = v.places.length then { v with phase := v.phase + 1, at_ := 0 } else { v with at_ := v.at_ + 1 }
def NextP (w : World) (B : Nat) (K : Nat → Prop) (pb xb : Nat) (r : Nat × PM) (v' : MV) (e : Ending) (w' : World) : Prop := e = .returned (.tuple #[.bool false, .int .i64 r.1]) ∧ PoolF w' B K pb r.2 ∧ MoveAt w' K xb v' ∧ Mod (fun b => b = xb ∨ (B ≤ b ∧ ¬ K b)) w w'
set_option maxHeartbeats 400000 in
set_option maxRecDepth 100000 in
theorem next_ready {w : World} {K : Nat → Prop} {xb : Nat} {v : MV} (hM : MoveAt w K xb v) (p : Value) (h : v.phase = 3 ∨ v.places = []) :
    Calls Try.prog 54 #[.pointer (some ⟨xb, 0, none⟩), p] w fun e w' => e = .returned (.tuple #[.bool true, .int .i64 0]) ∧ w = w' := by
  obtain ⟨lv, tv, pv, hx, hb, h1, h2, h3⟩ := hM
  obtain ⟨k, m, locs, target, places, phase, at_⟩ := v
  simp only at hb h3 h
  obtain ⟨pa, pc, rfl, _⟩ := Ns.open_ h3
  have c7 : w.cell? ⟨xb, 7, none⟩ = some (.int .i64 phase) := blk_cell hb rfl
  have c6 : w.cell? ⟨xb, 6, none⟩ = some (.slice pa places.length pc) := blk_cell hb rfl
  by_cases p3 : phase = 3
  · subst p3
    clear hb h1 h2 h3 h
    go_enter Try.func54, Try.ntmps54
    go_wp2
    go_ret2
    exact ⟨rfl, rfl⟩
  · have hp : places = [] := by rcases h with h | h; exact absurd h p3; exact h
    subst hp
    have q3 : ¬ (phase : Int) = 3 := by omega
    rw [List.length_nil] at c6
    clear hb h1 h2 h3 h
    go_enter Try.func54, Try.ntmps54
    go_wp2
    go_ret2
    exact ⟨rfl, rfl⟩
set_option maxHeartbeats 4000000 in
set_option maxRecDepth 100000 in
theorem next_step {w : World} {B : Nat} {K : Nat → Prop} {pb xb : Nat} {pm : PM} {v : MV} (hP : PoolF w B K pb pm) (hK : ∀ b, K b → b < w.heap.size) (hB : B ≤ w.heap.size) (hc : pm.calm) (hv : MvOk v) (hM : MoveAt w K xb v) (a : Nat) (ha : a < v.k + v.m)
    (hph : v.phase < 3) (hat : v.at_ < v.places.length) (hpa : v.places.getD v.at_ 0 = (a : Int)) (hpn : v.places.length ≤ 1000) :
    Calls Try.prog 54 #[.pointer (some ⟨xb, 0, none⟩), .pointer (some ⟨pb, 0, none⟩)] w (NextP w B K pb xb (doM v pm a) (if (doM v pm a).1 = 0 then adv v else v)) := by
  have hdr : Mod (fun _ => False) w w.drew := (Mod.refl _ w).drew
  have hdo := mvdo_any (w := w.drew) (hP.move (K' := K) hdr (fun _ h => h.elim) (fun _ h => .inl h)) hK hB hc hv (hM.kept hdr (fun _ _ h => h)) a ha
  obtain ⟨lv, tv, pv, hx, hb, h1, h2, h3⟩ := hM
  obtain ⟨pb', po, pc, rfl, hpS, hpb, _, hpc⟩ := Sv.cellAt h3 (by rw [List.length_map]; omega)
  rw [List.length_map] at hpc hb
  have hpc' := hpc v.at_ hat
  rw [show (v.places.map (Value.int .i64)).getD v.at_ undef = .int .i64 (v.places.getD v.at_ 0) from by simp [List.getD_eq_getElem?_getD, List.getElem?_eq_getElem hat], hpa] at hpc'
  have hdo2 := hdo.mono (R' := fun e w' => e = .returned (.int .i64 (doM v pm a).1) ∧ PoolF w' B K pb (doM v pm a).2 ∧ Mod (fun b => B ≤ b ∧ ¬ K b) w w' ∧ w'.cell? ⟨xb, 6, none⟩ = some (.slice (some ⟨pb', po, none⟩) v.places.length pc) ∧ w'.cell? ⟨xb, 8, none⟩ = some (.int .i64 v.at_) ∧ w'.cell? ⟨pb', po + v.at_, none⟩ = some (.int .i64 a)) (by
    rintro e w' ⟨rfl, g1, g2⟩
    have hm : Mod (fun b => B ≤ b ∧ ¬ K b) w w' := (hdr.mono (fun _ _ h => h.elim)).trans g2
    have hb' := blk_mod hm hb (fun h => h.2 hx)
    exact ⟨rfl, g1, hm, blk_cell hb' rfl, blk_cell hb' rfl, (hm.cell (p := ⟨pb', po + v.at_, none⟩) hpb (fun h => h.2 hpS.1)).trans hpc'⟩)
  have c6 : w.cell? ⟨xb, 6, none⟩ = some (.slice (some ⟨pb', po, none⟩) v.places.length pc) := blk_cell hb rfl
  have c7 : w.cell? ⟨xb, 7, none⟩ = some (.int .i64 v.phase) := blk_cell hb rfl
  have c8 : w.cell? ⟨xb, 8, none⟩ = some (.int .i64 v.at_) := blk_cell hb rfl
  generalize doM v pm a = D at *
  have HDO := Lib.hid hdo2; have HB := Lib.hid hb; have H1 := Lib.hid h1; have H2 := Lib.hid h2; have H3 := Lib.hid h3
  obtain ⟨k, m, locs, target, places, phase, at_⟩ := v
  simp only at hpc' ha hph hat hpa hpn c6 c7 c8 HDO HB H1 H2 H3
  obtain ⟨v2, hv2⟩ : ∃ v2, (if D.1 = 0 then adv ⟨k, m, locs, target, places, phase, at_⟩ else ⟨k, m, locs, target, places, phase, at_⟩) = v2 := ⟨_, rfl⟩
  rw [hv2]
  have HV2 := Lib.hid hv2
  clear hv2
  obtain ⟨pl, hpl⟩ : ∃ pl, places.length = pl := ⟨_, rfl⟩
  rw [hpl] at hat hpn c6 HDO HB
  rw [List.length_map, hpl] at H3
  have HPL := Lib.hid hpl
  clear hpl
  have q3 : ¬ (phase : Int) = 3 := by omega
  have q0 : ¬ (pl : Int) = 0 := by omega
  have q0' : ¬ pl = 0 := by omega
  have q3b : ((phase : Int) == 3) = false := by simp; omega
  have q0b : ((pl : Int) == 0) = false := by simp; omega
  have qi : (at_ : Int) < (pl : Int) := by omega
  clear hdo hdo2 hP hK hb h1 h2 h3 hpc hv hpa hdr
  go_enter Try.func54, Try.ntmps54
  go_wp2
  go_region_held3 (fun w' => w'.cell? ⟨xb, 6, none⟩ = some (.slice (some ⟨pb', po, none⟩) pl pc) ∧ w'.cell? ⟨xb, 8, none⟩ = some (.int .i64 at_) ∧ w'.cell? ⟨pb', po + at_, none⟩ = some (.int .i64 a)) (go_keep) ((go_at_call 94; refine HDO.out.mono ?_; rintro e w1 ⟨rfl, hP1, hm1, y6, y8, y9⟩))
  have hb1 := blk_mod hm1 HB.out (fun h => h.2 hx)
  have n1 := Sv.kept H1.out hm1 (fun b _ h h' => h'.2 h.1)
  have n2 := Sv.kept H2.out hm1 (fun b _ h h' => h'.2 h.1)
  have n3 := Sv.kept H3.out hm1 (fun b _ h h' => h'.2 h.1)
  by_cases hr : D.1 = 0
  · have hv2 := HV2.out
    rw [if_pos hr] at hv2
    subst hv2
    clear HV2
    have z7 : w1.cell? ⟨xb, 7, none⟩ = some (.int .i64 phase) := blk_cell hb1 rfl
    have f7 := blk_free hb1 7
    have f8 := blk_free hb1 8
    have hri : (D.1 : Int) = 0 := by omega
    have hl1 := blk_lt hb1
    have HBB := Lib.hid hb1; have N1 := Lib.hid n1; have N2 := Lib.hid n2; have N3 := Lib.hid n3; have HP1 := Lib.hid hP1; have HM1 := Lib.hid hm1
    -- what is laid into the move's block
    have hset : ∀ (u : World) (v' : MV) (cs : Array Value), Mod (fun b => b = xb) w1 u → u.heap[xb]? = some (.cells cs 122 (0, 0)) → cs = #[.int .i64 k, .int .i64 m, .int .i64 33, .int .i64 0, lv, tv, .slice (some ⟨pb', po, none⟩) pl pc, .int .i64 v'.phase, .int .i64 v'.at_] →
        v'.k = k → v'.m = m → v'.locs = locs → v'.target = target → v'.places = places → D.1 = 0 → NextP w B K pb xb D v' (.returned (.tuple #[.bool false, .int .i64 0])) u := by
      intro u v' cs hm hh hcs e1 e2 e3 e4 e5 e0
      refine ⟨by rw [e0]; rfl, HP1.out.move hm (fun b h => h ▸ hx) (fun _ h => .inl h), ⟨lv, tv, _, hx, by rw [hh, hcs, e1, e2], by rw [e3]; exact Sv.kept N1.out hm (fun b _ h h' => h.2 h'), by rw [e4]; exact Sv.kept N2.out hm (fun b _ h h' => h.2 h'), by rw [e5]; exact Sv.kept N3.out hm (fun b _ h h' => h.2 h')⟩, (HM1.out.mono (fun b _ h => .inr h)).trans (hm.mono (fun b _ h => .inl h))⟩
    have HSET := Lib.hid hset
    by_cases hend : at_ + 1 = pl
    · have hadv : adv ⟨k, m, locs, target, places, phase, at_⟩ = ⟨k, m, locs, target, places, phase + 1, 0⟩ := by unfold adv; rw [if_pos (by rw [HPL.out]; exact hend)]
      have HADV := Lib.hid hadv
      have hei : (at_ : Int) + 1 = (pl : Int) := by omega
      clear hset hb1 n1 n2 n3 hP1 hm1 HDO H1 H2 H3 HB hadv c6 c7 c8 hpc'
      go_wp2
      go_quiet (fail)
      go_wp2
      (try simp only [Exit.inBlock, Exit.then])
      refine bodyPost_ret (results_tmp2 rfl _ _ _) rfl ?_
      rw [HADV.out]
      have m1 := mod_drewN (Mod.set1 (w := w1) xb 8 (.int .i64 (pl : Int))) nq
      have g1 : ((w1.setCell ⟨xb, 8, none⟩ (.int .i64 (pl : Int))).drewN nq).heap[xb]? = _ := blk_set HBB.out 8 (.int .i64 (pl : Int))
      have g2 := blk_set (blk_set g1 7 (.int .i64 ((phase : Int) + 1))) 8 (.int .i64 0)
      exact HSET.out _ ⟨k, m, locs, target, places, phase + 1, 0⟩ _ ((m1.trans (Mod.set1 _ _ _)).trans (Mod.set1 _ _ _)) g2 (by simp) rfl rfl rfl rfl rfl hr
    · have hadv : adv ⟨k, m, locs, target, places, phase, at_⟩ = ⟨k, m, locs, target, places, phase, at_ + 1⟩ := by unfold adv; rw [if_neg (by rw [HPL.out]; exact hend)]
      have HADV := Lib.hid hadv
      have hei : ¬ (at_ : Int) + 1 = (pl : Int) := by omega
      clear hset hb1 n1 n2 n3 hP1 hm1 HDO H1 H2 H3 HB hadv c6 c7 c8 hpc'
      go_wp2
      go_quiet (fail)
      go_wp2
      (try simp only [Exit.inBlock, Exit.then])
      refine bodyPost_ret (results_tmp2 rfl _ _ _) rfl ?_
      rw [HADV.out]
      have m1 := mod_drewN (Mod.set1 (w := w1) xb 8 (.int .i64 ((at_ : Int) + 1))) nq
      have g1 : ((w1.setCell ⟨xb, 8, none⟩ (.int .i64 ((at_ : Int) + 1))).drewN nq).heap[xb]? = _ := blk_set HBB.out 8 (.int .i64 ((at_ : Int) + 1))
      exact HSET.out _ ⟨k, m, locs, target, places, phase, at_ + 1⟩ _ m1 g1 (by simp) rfl rfl rfl rfl rfl hr
  · have hv2 := HV2.out
    rw [if_neg hr] at hv2
    subst hv2
    clear HV2
    have hri : ¬ (D.1 : Int) = 0 := by omega
    have HR := Lib.hid (show NextP w B K pb xb D ⟨k, m, locs, target, places, phase, at_⟩ (.returned (.tuple #[.bool false, .int .i64 D.1])) w1 from ⟨rfl, hP1, ⟨lv, tv, _, hx, hb1, n1, n2, n3⟩, hm1.mono (fun b _ h => .inr h)⟩)
    clear hb1 n1 n2 n3 hP1 hm1 HDO H1 H2 H3 HB c6 c7 c8 hpc'
    go_wp2
    go_ret2
    exact HR.out
end Go.Proofs.Fl

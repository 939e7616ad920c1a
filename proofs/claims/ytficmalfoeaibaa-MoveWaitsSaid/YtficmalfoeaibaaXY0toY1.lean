import Derived.Test.YtficmalfoeaibaaXX6toX9
namespace Go.Proofs.Fl
open Go.RowKit

/-! ### MoveWaits: the pool -/
def v21 : MV := ⟨2, 1, [2, 1, 0], [3, 1, 0], [0], 0, 0⟩
theorem v21_ok : MvOk v21 := ⟨by decide, by decide, by decide, rfl, rfl⟩
def ls21 (all : List Bytes) : DrvL := [laidS 3 all 0, laidS 3 all 1, laidS 3 all 2]
def row21 (d : Bytes) : Bytes := (rencM 2 1 (fullM 2 d)).getD 0 []
theorem row21_len (d : Bytes) : (row21 d).length = 8 := renc_row 2 1 _ (by decide) (fullM_length 2 (by decide) d) 0 (by decide)
theorem start21 (d : Bytes) : PQ 8 ((laidM 2 1 d 0 0).1.add 1) (ls21 (rencM 2 1 (fullM 2 d)) ++ [(1, noS)]) :=
  (laid_PQ 2 1 (by decide) (by decide) (by decide) d).add 1
theorem src21 {t : Nat} {pm : PM} {d : Bytes} {x : Nat × Slots} (h : PQ t pm (ls21 (rencM 2 1 (fullM 2 d)) ++ [x])) : Src pm 3 (rencM 2 1 (fullM 2 d)) :=
  src_of h 3 _ (by simp [ls21]) (fun q hq => by
    have : q = 0 ∨ q = 1 ∨ q = 2 := by omega
    rcases this with rfl | rfl | rfl <;> rfl)
theorem one21 {t : Nat} {pm : PM} {d : Bytes} {x : Nat × Slots} (h : PQ t pm (ls21 (rencM 2 1 (fullM 2 d)) ++ [x])) : oneM 2 1 pm 33 [2, 1, 0] 0 = (row21 d, 0) :=
  one_src 2 1 (by decide) (by decide) (by decide) d (src21 h) 0 (by decide)
def fillS (q : Nat) : Slots := putF noS 0 (some (77, q, []))
theorem fill21 {t : Nat} {pm : PM} {d : Bytes} (h : PQ t pm (ls21 (rencM 2 1 (fullM 2 d)) ++ [(1, noS)])) (q : Nat) (hq : q ≤ 255) : ∃ pm', pm.store 3 77 q [] = (0, pm') ∧ PQ (t + 1) pm' (ls21 (rencM 2 1 (fullM 2 d)) ++ [(1, fillS q)]) := by
  obtain ⟨m', e, h2⟩ := h.store 3 (by simp [ls21]) (77, q, []) ⟨by show 77 ≤ 1073741824; decide, hq, by show ([] : Bytes).length ≤ 50; decide⟩ 1 noS rfl 0 (by rfl)
  exact ⟨m', e, h2⟩
theorem wait21 {t : Nat} {pm : PM} {d : Bytes} {q : Nat} (h : PQ t pm (ls21 (rencM 2 1 (fullM 2 d)) ++ [(1, fillS q)])) : doM v21 pm 0 = (3, pm) := by
  have h1 := one21 h
  have e := h.full 3 (by simp [ls21]) (33, 0, row21 d) ⟨by show 33 ≤ 1073741824; decide, by show 0 ≤ 255; decide, by show (row21 d).length ≤ 50; rw [row21_len]; decide⟩ 1 (fillS q) rfl (by rfl)
  show copyM v21 pm 0 = _
  unfold copyM
  show (if (oneM 2 1 pm 33 [2, 1, 0] 0).2 ≠ 0 then _ else pm.store 3 33 0 (oneM 2 1 pm 33 [2, 1, 0] 0).1) = _
  rw [h1]
  exact e
theorem free21 {t : Nat} {pm : PM} {d : Bytes} {q : Nat} (h : PQ t pm (ls21 (rencM 2 1 (fullM 2 d)) ++ [(1, fillS q)])) :
    ∃ pm', pm.erase 3 77 q = (0, pm') ∧ PQ (t + 1) pm' (ls21 (rencM 2 1 (fullM 2 d)) ++ [(1, noS)]) := by
  obtain ⟨m', e, h2⟩ := h.erase 3 (by simp [ls21]) 77 q 1 (fillS q) rfl 0 (by
    unfold findF
    refine firstIn_some (by decide) ?_ (by omega)
    show decide (77 = 77 ∧ q = q) = true
    simp)
  refine ⟨m', e, ?_⟩
  have e2 : putF (fillS q) 0 none = noS := by funext i; unfold fillS putF noS; split <;> rfl
  rw [e2] at h2
  exact h2
theorem copy21 {t : Nat} {pm : PM} {d : Bytes} (h : PQ t pm (ls21 (rencM 2 1 (fullM 2 d)) ++ [(1, noS)])) :
    ∃ pm', doM v21 pm 0 = (0, pm') ∧ PQ (t + 1) pm' (ls21 (rencM 2 1 (fullM 2 d)) ++ [(1, putF noS 0 (some (33, 0, row21 d)))]) := by
  have h1 := one21 h
  obtain ⟨m', e, h2⟩ := h.store 3 (by simp [ls21]) (33, 0, row21 d) ⟨by show 33 ≤ 1073741824; decide, by show 0 ≤ 255; decide, by show (row21 d).length ≤ 50; rw [row21_len]; decide⟩ 1 noS rfl 0 (by rfl)
  refine ⟨m', ?_, h2⟩
  show copyM v21 pm 0 = _
  unfold copyM
  show (if (oneM 2 1 pm 33 [2, 1, 0] 0).2 ≠ 0 then _ else pm.store 3 33 0 (oneM 2 1 pm 33 [2, 1, 0] 0).1) = _
  rw [h1]
  exact e
theorem load21 {t : Nat} {pm : PM} {d b : Bytes} (h : PQ t pm (ls21 (rencM 2 1 (fullM 2 d)) ++ [(1, putF noS 0 (some (33, 0, b)))])) : pm.load 3 33 0 = (b, 0) :=
  h.load 3 (by simp [ls21]) (33, 0, b) 1 _ rfl 0 (by decide) (by rfl) (by rfl)
end Go.Proofs.Fl

namespace Go.Proofs.Fl
open Go.RowKit

set_option maxHeartbeats 4000000 in
set_option maxRecDepth 100000 in
theorem waits_law {dv : Value} {d : Bytes} {w : World} (hD : DatB w (fun b => b < w.heap.size) dv d) (hd0 : d.length ≤ maxLen) (xf xt : UInt8) :
    Calls Try.prog 14 #[dv, .int .u8 xf.toNat, .int .u8 xt.toNat] w fun e w' => e = .returned (.bool true) ∧ Below w.heap.size w w' := by
  have HD := Lib.hid hD
  obtain ⟨dao, dc, rfl⟩ := hD.shape
  clear hD
  have hd0i : (d.length : Int) ≤ 9223372036854775807 := by unfold maxLen at hd0; omega
  by_cases hbig : 100 < d.length
  · have hbi : (100 : Int) < (d.length : Int) := by omega
    clear hd0
    go_enter Try.func14, Try.ntmps14
    go_wp2_with (go_at_call 51; refine (answers18 _).mono ?_; rintro e w1 ⟨rfl, hb1⟩)
    go_ret
    exact ⟨rfl, hb1⟩
  have hbi : ¬ (100 : Int) < (d.length : Int) := by omega
  clear hd0
  have hxf := xf.toNat_lt
  have hxt := xt.toNat_lt
  obtain ⟨T, hT5⟩ : ∃ T, xt.toNat % 5 = T := ⟨_, rfl⟩
  have hTi : (xt.toNat : Int) % 5 = (T : Int) := by omega
  have hTl : T < 5 := by omega
  obtain ⟨qf, hqf⟩ : ∃ qf, xf.toNat = qf := ⟨_, rfl⟩
  have hqfi : (xf.toNat : Int) = (qf : Int) := by omega
  have hq255 : qf ≤ 255 := by omega
  clear hT5 hqf
  go_enter Try.func14, Try.ntmps14
  go_wp2_with (fail)
  refine (laid18_any 2 1 (by decide) (by decide) (by decide) HD.out (by omega) 0 0).mono ?_
  rintro e w2 ⟨pb, lv, tv, K, rfl, hK, hP, hN, hT, hb⟩
  rw [show (2 + 1 : Nat) = 3 from rfl] at *
  have hstep := start21 d
  have hlen : (laidM 2 1 d 0 0).1.list.length = 3 := (laid_PQ 2 1 (by decide) (by decide) (by decide) d).len
  have hrl := laidM_rows 2 1 d 0 0
  have hr0 : (laidM 2 1 d 0 0).2.getD 0 [] = row21 d := by
    rw [laidM_row 2 1 d 0 0 0 (by decide)]; unfold haveB; rw [bit0]; rfl
  generalize (laidM 2 1 d 0 0).1 = pm at *
  generalize (laidM 2 1 d 0 0).2 = hav at *
  rw [show (2 + 1 : Nat) = 3 from rfl] at hrl
  obtain ⟨lb, lo, lc, rfl, lS, hlbl, _, hlc⟩ := Sv.cellAt hN (by decide)
  have hlc1 : w2.cell? ⟨lb, lo + 1, none⟩ = some (.int .i64 1) := hlc 1 (by decide)
  have hlc2 : w2.cell? ⟨lb, lo + 2, none⟩ = some (.int .i64 0) := hlc 2 (by decide)
  rw [show ((locsM 3 3).map (Value.int .i64)).length = 3 from rfl] at *
  obtain ⟨tb, to, tc, rfl, tS, htb, _, htr⟩ := hT.cellAt (by omega)
  obtain ⟨ra, rc, hrc, hrB⟩ := htr 0 (by omega)
  rw [hr0, row21_len] at hrc hrB
  rw [hrl]
  obtain ⟨W, hW⟩ : ∃ W, w2.alloc (.cells #[.int .i64 33, .int .i64 0, .slice (some ⟨lb, lo, none⟩) 3 lc] 67) = W := ⟨_, rfl⟩
  have hbW : Below w2.heap.size w2 W := by rw [← hW]; exact (Below.refl _ _).alloc (Nat.le_refl _) _
  have hcW : W.heap[w2.heap.size]? = some (.cells #[.int .i64 33, .int .i64 0, .slice (some ⟨lb, lo, none⟩) 3 lc] 67 (0, 0)) := by rw [← hW]; exact heap_alloc_new _ _
  have hbs := hb.size
  obtain ⟨K', hK'⟩ : ∃ K' : Nat → Prop, (fun b => K b ∨ (w2.heap.size ≤ b ∧ b < W.heap.size)) = K' := ⟨_, rfl⟩
  have hPW := hP.more hbW
  rw [hK'] at hPW
  have k3 : ∀ b, K' b → b < W.heap.size := fun b h => by
    rw [← hK'] at h
    have := hbW.size
    rcases h with h | h
    · have := hK b h; omega
    · omega
  have ka : ∀ b, K b → K' b := fun b h => by rw [← hK']; exact .inl h
  have k2 : K' w2.heap.size := by rw [← hK']; exact .inr ⟨Nat.le_refl _, blk_lt hcW⟩
  have hNW : Ns W K' (.slice (some ⟨lb, lo, none⟩) 3 lc) (locsM 3 3) := Sv.mono (hN.below hbW) (fun b _ h => ka b h)
  have hbw := hb.trans (hbW.mono hbs)
  have hadd := PF_add hPW k3 hbw.size 1 (by rw [hlen]; decide)
  have hrcW := (hbW.cell (p := ⟨tb, to + 0, none⟩) htb).trans hrc
  have hrBW : Bs W K' (.slice ra 8 rc) (row21 d) := (hrB.below hbW).mono (fun b _ h => ka b h)
  have htbW := Nat.lt_of_lt_of_le htb hbW.size
  have hlbW := Nat.lt_of_lt_of_le hlbl hbW.size
  have hlcW := (hbW.cell (p := ⟨lb, lo + 1, none⟩) hlbl).trans hlc1
  have hlcW2 := (hbW.cell (p := ⟨lb, lo + 2, none⟩) hlbl).trans hlc2
  have klb := ka _ lS
  have ktb := ka _ tS
  have HADD := Lib.hid hadd; have HCW := Lib.hid hcW; have HNW := Lib.hid hNW; have HBW := Lib.hid hbw; have HST := Lib.hid hstep; have HK3 := Lib.hid k3; have HRC := Lib.hid hrcW; have HRB := Lib.hid hrBW; have HLC := Lib.hid hlcW; have HLC2 := Lib.hid hlcW2
  clear hadd hcW hNW hbw hstep k3 hK' hPW hbW hK hP hN hT hb hrl hbs ka htr hrc hrB hlc hlc1 hlc2 hrcW hrBW hlcW hlcW2 hr0
  unfold stripeV
  go_wp2_with (fail)
  refine HADD.out.mono ?_
  rintro e w30 ⟨rfl, hP3, hm3⟩
  obtain ⟨pm5, e5, hq5⟩ := fill21 HST.out qf hq255
  have hm30s := hm3.size
  have hst3 := PF_store hP3 (fun b h => Nat.lt_of_lt_of_le (HK3.out b h) hm30s) (Nat.le_trans HBW.out.size hm30s) (HST.out.calm (by decide)) 3 77 qf (Bs.nil _ (fun _ => False))
  rw [e5] at hst3
  have HST3 := Lib.hid hst3; have HM30 := Lib.hid hm3; have HQ5 := Lib.hid hq5
  clear hst3 hP3 hm3 e5 hq5 HADD
  go_wp2_with (fail)
  refine HST3.out.mono ?_
  rintro e w3 ⟨rfl, hP3, hm3'⟩
  have hm3 := HM30.out.trans hm3'
  clear hm3' HM30 HST3
  have hc3 := blk_mod hm3 HCW.out (fun h => h.2 k2)
  have hN3 : Ns w3 K' (.slice (some ⟨lb, lo, none⟩) 3 lc) (locsM 3 3) := Sv.kept HNW.out hm3 (fun b _ h h' => h'.2 h)
  have hb3 := below_mod HBW.out HBW.out.size hm3 (fun b h => h.1)
  have s0 : w3.cell? ⟨w2.heap.size, 0, none⟩ = some (.int .i64 33) := blk_cell hc3 rfl
  have s1 : w3.cell? ⟨w2.heap.size, 1, none⟩ = some (.int .i64 0) := blk_cell hc3 rfl
  have s2 : w3.cell? ⟨w2.heap.size, 2, none⟩ = some (.slice (some ⟨lb, lo, none⟩) 3 lc) := blk_cell hc3 rfl
  have s3 := (hm3.cell (p := ⟨lb, lo + 1, none⟩) hlbW (fun h => h.2 klb)).trans HLC.out
  have s4 := (hm3.cell (p := ⟨lb, lo + 2, none⟩) hlbW (fun h => h.2 klb)).trans HLC2.out
  have r3 := (hm3.cell (p := ⟨tb, to + 0, none⟩) htbW (fun h => h.2 ktb)).trans HRC.out
  have rb3 := HRB.out.kept hm3 (fun b _ h h' => h'.2 h)
  have hm3s := hm3.size
  have hl3 := blk_lt hc3
  have hlb3 := Nat.lt_of_lt_of_le hlbW hm3s
  have htb3 := Nat.lt_of_lt_of_le htbW hm3s
  have hbd : Below w3.heap.size w3 (w3.drew.alloc (.cells #[.int .i64 3, .int .i64 1, .int .i64 0] 3)) := ((Below.refl _ w3).drew).alloc (Nat.le_refl _) _
  have hnew := movenew_any (w := w3.drew.alloc (.cells #[.int .i64 3, .int .i64 1, .int .i64 0] 3)) 2 1 (by decide) (by decide) (Sv.mono (hN3.below hbd) (T := fun _ => True) (fun _ _ _ => trivial)) (Sv.mono (Ns.lit w3.drew 3 (0, 0) [3, 1, 0] #[.int .i64 3, .int .i64 1, .int .i64 0] rfl (by decide)) (T := fun _ => True) (fun _ _ _ => trivial)) (by decide) (by decide)
  have hnew2 := hnew.mono (R' := fun e w' => ∃ xb, e = .returned (.pointer (some ⟨xb, 0, none⟩)) ∧ (w3.heap.size ≤ xb ∧ MoveAt w' (Fresh w3) xb v21) ∧ Below w3.heap.size w3 w' ∧
      w'.cell? ⟨w2.heap.size, 0, none⟩ = some (.int .i64 33) ∧ w'.cell? ⟨w2.heap.size, 1, none⟩ = some (.int .i64 0) ∧ w'.cell? ⟨w2.heap.size, 2, none⟩ = some (.slice (some ⟨lb, lo, none⟩) 3 lc) ∧ w'.cell? ⟨lb, lo + 1, none⟩ = some (.int .i64 1) ∧ w'.cell? ⟨lb, lo + 2, none⟩ = some (.int .i64 0)) (by
    rintro e w' ⟨xb, rfl, hM, hbl⟩
    have hb' := hbd.trans (hbl.mono hbd.size)
    have hxb := hM
    obtain ⟨_, _, _, hxx, _⟩ := hxb
    have hc' := (hb'.block _ hl3).trans hc3
    exact ⟨xb, rfl, ⟨Nat.le_trans hbd.size hxx, hM.mono (fun b _ h => Nat.le_trans hbd.size h)⟩, hb', blk_cell hc' rfl, blk_cell hc' rfl, blk_cell hc' rfl, (hb'.cell (p := ⟨lb, lo + 1, none⟩) hlb3).trans s3, (hb'.cell (p := ⟨lb, lo + 2, none⟩) hlb3).trans s4⟩)
  have HNEW := Lib.hid hnew2; have HP3 := Lib.hid hP3; have HB3 := Lib.hid hb3; have HR3 := Lib.hid r3; have HRB3 := Lib.hid rb3
  clear hnew hnew2 hP3 hm3 hc3 hN3 hb3 r3 rb3 HCW HNW HBW HRC HRB HLC HLC2 hW hbd
  go_wp2
  go_region_held3 (fun w' => w'.cell? ⟨w2.heap.size, 0, none⟩ = some (.int .i64 33) ∧ w'.cell? ⟨w2.heap.size, 1, none⟩ = some (.int .i64 0) ∧ w'.cell? ⟨w2.heap.size, 2, none⟩ = some (.slice (some ⟨lb, lo, none⟩) 3 lc) ∧ w'.cell? ⟨lb, lo + 1, none⟩ = some (.int .i64 1) ∧ w'.cell? ⟨lb, lo + 2, none⟩ = some (.int .i64 0)) (go_keep) ((go_at_call 53; refine HNEW.out.mono ?_; rintro e w4 ⟨xb, rfl, hM, hb4, q0, q1, q2, q3, q4⟩))
  obtain ⟨hxb3, hM⟩ := hM
  have hA3 := HB3.out.size
  have hb4s := hb4.size
  obtain ⟨K4, hK4⟩ : ∃ K4 : Nat → Prop, (fun b => K' b ∨ (w3.heap.size ≤ b ∧ b < w4.heap.size)) = K4 := ⟨_, rfl⟩
  have hP4 := HP3.out.more hb4
  rw [hK4] at hP4
  have k4 : ∀ b, K4 b → b < w4.heap.size := fun b h => by
    rw [← hK4] at h
    rcases h with h | h
    · have := HK3.out b h; omega
    · omega
  have k4a : ∀ b, K' b → K4 b := fun b h => by rw [← hK4]; exact .inl h
  have hM4 : MoveAt w4 K4 xb v21 := MoveAt.mono hM (fun b hb h => by rw [← hK4]; exact .inr ⟨h, hb⟩)
  have hb04 := HB3.out.trans (hb4.mono HB3.out.size)
  have r4 := (hb4.cell (p := ⟨tb, to + 0, none⟩) htb3).trans HR3.out
  have rb4 : Bs w4 (fun b => K4 b ∧ b < w3.heap.size) (.slice ra 8 rc) (row21 d) := ((HRB3.out.mono (T := fun b => K' b ∧ b < w3.heap.size) (fun b hb h => ⟨h, hb⟩)).below hb4).mono (fun b _ h => ⟨k4a b h.1, h.2⟩)
  have ktb4 := k4a _ ktb
  have HB04 := Lib.hid hb04; have R4 := Lib.hid r4; have RB4 := Lib.hid rb4; have K4L := Lib.hid k4; have HP4 := Lib.hid hP4; have HM4 := Lib.hid hM4
  have hxw : w.heap.size ≤ xb := by omega
  have htb4 := Nat.lt_of_lt_of_le htb3 hb4s
  have hs04 := hb04.size
  have hxtb : xb ≠ tb := by omega
  clear hb04 hM4 hP4 hK4 k4 hb4 hM HP3 HB3 HR3 HRB3 s0 s1 s2 s3 s4 q0 q1 q2 q3 q4 HNEW r4 rb4
  go_wp2
  go_loopw [11] (fun i wr => ∃ j : Nat, j ≤ T ∧ i = .int .i64 j ∧ PoolF wr w.heap.size K4 pb pm5 ∧ MoveAt wr K4 xb v21 ∧ Mod (fun b => b = xb ∨ (w.heap.size ≤ b ∧ ¬ K4 b)) w4 wr) (fun i _ => T - (intOf i).toNat)
  case atStart => exact ⟨0, by omega, rfl, HP4.out, HM4.out, Mod.refl _ _⟩
  case round =>
    obtain ⟨j, hj, rfl, hP, hM, hm⟩ := hrel
    have hms := hm.size
    have hk : ∀ b, K4 b → b < wr.heap.size := fun b h => Nat.lt_of_lt_of_le (K4L.out b h) hms
    by_cases hlt : j < T
    · have hnx := next_step hP hk (by omega) (HQ5.out.calm (by decide)) v21_ok hM 0 (by decide) (by decide) (by decide) rfl (by decide)
      rw [wait21 HQ5.out] at hnx
      have HNX := Lib.hid hnx; have HMM := Lib.hid hm
      clear hnx hP hM hm hk
      go_wp2_with (fail)
      refine HNX.out.mono ?_
      rintro e w6 ⟨rfl, hP6, hM6, hm6⟩
      have HP6 := Lib.hid hP6; have HM6 := Lib.hid hM6; have HMM6 := Lib.hid (HMM.out.trans hm6)
      clear hP6 hM6 hm6 HNX HMM
      go_wp2
      go_roundw
      case rel => exact ⟨j + 1, by omega, by go_num, HP6.out, HM6.out, HMM6.out⟩
      case measure => simp [intOf]; omega
    · obtain rfl : j = T := by omega
      have hb5 := below_mod HB04.out hs04 hm (fun b h => h.elim (fun h => by omega) (fun h => h.1))
      have her := PF_erase hP hk hb5.size (HQ5.out.calm (by decide)) 3 77 qf
      obtain ⟨pm6, e6, hq6⟩ := free21 HQ5.out
      rw [e6] at her
      obtain ⟨pm7, e7, hq7⟩ := copy21 hq6
      have hld := load21 hq7
      have HER := Lib.hid her; have HM5 := Lib.hid hM; have HB5 := Lib.hid hb5; have HQ6 := Lib.hid hq6; have HQ7 := Lib.hid hq7; have E7 := Lib.hid e7; have HLD := Lib.hid hld; have HMM := Lib.hid hm; have HK5 := Lib.hid hk
      have hs5 := hb5.size
      clear her hP hM hb5 hq6 hq7 e6 e7 hld hm hk HP4 HM4
      go_wp2_with (fail)
      refine HER.out.mono ?_
      rintro e w6 ⟨rfl, hP6, hm6⟩
      have hm6s := hm6.size
      have hM6 := HM5.out.kept hm6 (fun b h h' => h'.2 h)
      have hb6 := below_mod HB5.out hs5 hm6 (fun b h => h.1)
      have hnx := next_step hP6 (fun b h => Nat.lt_of_lt_of_le (HK5.out b h) hm6s) hb6.size (HQ6.out.calm (by decide)) v21_ok hM6 0 (by decide) (by decide) (by decide) rfl (by decide)
      rw [E7.out] at hnx
      have HNX := Lib.hid hnx; have HB6 := Lib.hid hb6; have HM46 := Lib.hid (HMM.out.trans (hm6.mono (T := fun b => b = xb ∨ (w.heap.size ≤ b ∧ ¬ K4 b)) (fun b _ h => .inr h)))
      have hs6 := hb6.size
      clear hnx hP6 hM6 hb6 hm6 HER HM5 HB5 HMM
      go_wp2_with (fail)
      refine HNX.out.mono ?_
      rintro e w7 ⟨rfl, hP7, _, hm7⟩
      have hb7 := below_mod HB6.out hs6 hm7 (fun b h => h.elim (fun h => by omega) (fun h => h.1))
      have hm47 := HM46.out.trans hm7
      have hm7s := hm47.size
      have r7 := (hm47.cell (p := ⟨tb, to + 0, none⟩) htb4 (fun h => h.elim (fun h => hxtb h.symm) (fun h => h.2 ktb4))).trans R4.out
      rw [Nat.add_zero] at r7
      have rb7 := RB4.out.kept hm47 (fun b _ h h' => h'.elim (fun e => by have := h.2; omega) (fun h' => h'.2 h.1))
      have hcl := L_load2 hP7.toL0 (HQ7.out.calm (by decide)) 3 33 0
      rw [HLD.out] at hcl
      have HL := Lib.hid hcl; have HB7 := Lib.hid hb7; have R7 := Lib.hid r7; have RB7 := Lib.hid rb7
      have htb7 := Nat.lt_of_lt_of_le htb4 hm7s
      clear hcl hP7 hm7 hb7 hm47 r7 rb7 HNX HB6 HM46 R4 RB4
      go_wp2_with (fail)
      refine HL.out.mono ?_
      rintro e w8 ⟨v8, rfl, hv8, hb8⟩
      have r8 := (hb8.cell (p := ⟨tb, to, none⟩) htb7).trans R7.out
      have HB8 := Lib.hid (HB7.out.trans (hb8.mono HB7.out.size)); have R8 := Lib.hid r8; have RB8 := Lib.hid (RB7.out.below hb8); have HV8 := Lib.hid hv8
      obtain ⟨v8a, v8c, rfl⟩ := hv8.shape
      have htb8 := Nat.lt_of_lt_of_le htb7 hb8.size
      clear hv8 hb8 r8 HL HB7 R7 RB7
      go_wp2_with (fail)
      refine (answers18 _).mono ?_
      rintro e w9 ⟨rfl, hb9⟩
      have r9 := (hb9.cell (p := ⟨tb, to, none⟩) htb8).trans R8.out
      have HB9 := Lib.hid (HB8.out.trans (hb9.mono HB8.out.size)); have RB9 := Lib.hid (RB8.out.below hb9); have HV9 := Lib.hid (HV8.out.below hb9)
      have t1 : (row21 d).length ≤ 1000000 := by rw [row21_len]; decide
      clear hb9 HB8 R8 RB8 HV8
      go_wp2_with (fail)
      refine (same_same HV9.out RB9.out t1).mono ?_
      rintro e w10 ⟨rfl, hb10⟩
      go_wp2
      go_ret
      exact ⟨rfl, HB9.out.trans (hb10.mono HB9.out.size)⟩
end Go.Proofs.Fl

import Derived.Test.YtficmalfoeaibaaXS11
import Derived.Test.YtficmalfoeaibaaXU0toU2
namespace Go.Proofs.Fl
open Go.RowKit

theorem laidM_eight (k m : Nat) (hk1 : 1 ≤ k) (hk : k ≤ 4) (d : Bytes) (lack spoil : UInt8) (i : Nat) (hi : i < k + m) : ((laidM k m d lack spoil).2.getD i []).length = 0 ∨ ((laidM k m d lack spoil).2.getD i []).length = 8 := by
  rw [laidM_row _ _ _ _ _ _ hi]
  unfold haveB
  split
  · exact .inl rfl
  · exact .inr (renc_row k m _ hk1 (fullM_length k hk d) i hi)
theorem decM_small (sh : List Bytes) (k m : Nat) (hk1 : 1 ≤ k) (hk : k ≤ 4) (h8 : ∀ i, i < k + m → (sh.getD i []).length = 0 ∨ (sh.getD i []).length = 8) : (decM k m sh).1.length ≤ 1000 := by
  rcases decM_err sh k m with h | h
  · rw [decM_len sh k m hk1 h8 h]; omega
  · have : (decM k m sh).1 = [] := by
      unfold decM at h ⊢
      split
      · rfl
      · rename_i hn; rw [if_neg hn] at h; cases h
    rw [this]; simp
theorem rebM_small (sh : List Bytes) (k m : Nat) (hk1 : 1 ≤ k) (h8 : ∀ i, i < k + m → (sh.getD i []).length = 0 ∨ (sh.getD i []).length = 8) (a : Int) : (rebM k m sh a).1.length ≤ 1000 := by
  unfold rebM
  split
  · simp
  · rename_i h
    have h0 : (decM k m sh).2 = 0 := by rcases decM_err sh k m with e | e <;> omega
    split
    · simp
    · show ((rencM k m (decM k m sh).1).getD a.toNat []).length ≤ 1000
      rw [renc_row k m _ hk1 (decM_len sh k m hk1 h8 h0) _ (by omega)]; decide

set_option maxHeartbeats 4000000 in
set_option maxRecDepth 100000 in
theorem read_law {dv : Value} {d : Bytes} {w : World} (hD : DatB w (fun b => b < w.heap.size) dv d) (hd0 : d.length ≤ maxLen) (xk xm lack spoil xa : UInt8) :
    Calls Try.prog 10 #[.int .u8 xk.toNat, .int .u8 xm.toNat, dv, .int .u8 lack.toNat, .int .u8 spoil.toNat, .int .u8 xa.toNat] w fun e w' => e = .returned (.bool true) ∧ Below w.heap.size w w' := by
  have HD := Lib.hid hD
  obtain ⟨dao, dc, rfl⟩ := hD.shape
  clear hD
  have hd0i : (d.length : Int) ≤ 9223372036854775807 := by unfold maxLen at hd0; omega
  by_cases hbig : 100 < d.length
  · have hbi : (100 : Int) < (d.length : Int) := by omega
    clear hd0
    go_enter Try.func10, Try.ntmps10
    go_wp2_with (go_at_call 44; refine (answers15 _).mono ?_; rintro e w1 ⟨rfl, hb1⟩)
    go_ret
    exact ⟨rfl, hb1⟩
  · have hbi : ¬ (100 : Int) < (d.length : Int) := by omega
    clear hd0
    have hx1 := xk.toNat_lt; have hx2 := xm.toNat_lt; have hx3 := xa.toNat_lt
    obtain ⟨q, hq⟩ : ∃ q, xk.toNat % 4 = q := ⟨_, rfl⟩
    obtain ⟨k, hk⟩ : ∃ k, q + 1 = k := ⟨_, rfl⟩
    obtain ⟨m, hm⟩ : ∃ m, xm.toNat % 4 = m := ⟨_, rfl⟩
    obtain ⟨j, hj⟩ : ∃ j, xa.toNat % (k + m) = j := ⟨_, rfl⟩
    have hjl : j < k + m := by rw [← hj]; exact Nat.mod_lt _ (by omega)
    have e1 : (xk.toNat : Int) % 4 = (q : Int) := by omega
    have e2 : (q : Int) + 1 = (k : Int) := by omega
    have e3 : (xm.toNat : Int) % 4 = (m : Int) := by omega
    have e4' : (xa.toNat : Int) % ((k : Int) + (m : Int)) = (j : Int) := by rw [← hj]; simp
    have e4 : (xa.toNat : Int).tmod ((k : Int) + (m : Int)) = (j : Int) := by rw [Int.tmod_eq_emod_of_nonneg (by omega), e4']
    have b1 : 1 ≤ k := by omega
    have b2 : k ≤ 4 := by omega
    have b3 : m ≤ 3 := by omega
    clear hq hk hm hj
    go_enter Try.func10, Try.ntmps10
    go_wp2_with (fail)
    refine (laid_any k m b1 b2 b3 HD.out (by omega) lack spoil).mono ?_
    rintro e w2 ⟨pb, lv, tv, K, rfl, hK, hP, hN, hT, hb⟩
    obtain ⟨lao, lc, rfl, _⟩ := hN.open_
    have hPH := laidM_PH k m b1 b2 b3 d lack spoil
    have hga := laidM_read k m b1 b2 b3 d lack spoil hPH
    have h8 := laidM_eight k m b1 b2 d lack spoil
    have hrl := laidM_rows k m d lack spoil
    have hcm := hPH.calm
    have hrd : readM k m (laidM k m d lack spoil).1 33 (locsM (k + m) (k + m)) = decM k m (laidM k m d lack spoil).2 := by unfold readM; rw [locsM_length, hga]
    have hon : oneM k m (laidM k m d lack spoil).1 33 (locsM (k + m) (k + m)) j = rebM k m (laidM k m d lack spoil).2 j := by unfold oneM; rw [locsM_length, hga]
    generalize (laidM k m d lack spoil).1 = pm at *
    generalize (laidM k m d lack spoil).2 = sh at *
    have sm1 := decM_small sh k m b1 b2 h8
    have sm2 := rebM_small sh k m b1 h8 j
    have hPL := hP.toL hb
    rw [locsM_length] at *
    obtain ⟨W, hW⟩ : ∃ W, w2.alloc (.cells #[.int .i64 33, .int .i64 0, .slice lao (k + m) lc] 67) = W := ⟨_, rfl⟩
    have hbW : Below w2.heap.size w2 W := by rw [← hW]; exact (Below.refl _ _).alloc (Nat.le_refl _) _
    have hcW : W.heap[w2.heap.size]? = some (.cells #[.int .i64 33, .int .i64 0, .slice lao (k + m) lc] 67 (0, 0)) := by rw [← hW]; exact heap_alloc_new _ _
    have hbw := hb.trans (hbW.mono hb.size)
    have s0 : W.cell? ⟨w2.heap.size, 0, none⟩ = some (.int .i64 33) := blk_cell hcW rfl
    have s1 : W.cell? ⟨w2.heap.size, 1, none⟩ = some (.int .i64 0) := blk_cell hcW rfl
    have s2 : W.cell? ⟨w2.heap.size, 2, none⟩ = some (.slice lao (k + m) lc) := blk_cell hcW rfl
    have hlW := blk_lt hcW
    have HPL := Lib.hid (hPL.ext hbW); have HN := Lib.hid (hN.below hbW); have HT := Lib.hid (hT.below hbW); have HB := Lib.hid hbw; have HCW := Lib.hid hcW
    have HC := Lib.hid hcm; have H8 := Lib.hid h8; have HRD := Lib.hid hrd; have HON := Lib.hid hon; have HRL := Lib.hid hrl
    obtain ⟨tao, tc, rfl⟩ := hT.shape
    rw [hrl] at HT ⊢
    clear hK hP hN hT hb hPH hga h8 hrl hcm hrd hon hPL hbW hcW hbw HD
    unfold stripeV
    go_wp2_with (fail)
    refine (read_any k m b1 b2 b3 HPL.out HC.out 33 0 _ (locsM (k + m) (k + m)) HN.out (locsM_length _ _)).mono ?_
    rintro e wa ⟨v1, rfl, hv1, hba⟩
    rw [HRD.out] at hv1 ⊢
    have hba' := HB.out.trans (hba.mono HB.out.size)
    have hdec := decode_any k m b1 b2 b3 (HT.out.below hba) HRL.out H8.out
    have hca := (hba.block _ hlW).trans HCW.out
    have hPa := HPL.out.ext hba
    have hNa := HN.out.below hba
    have hTa := HT.out.below hba
    obtain ⟨dd, hdd⟩ : ∃ dd, decM k m sh = dd := ⟨_, rfl⟩
    rw [hdd] at hv1 hdec sm1 ⊢
    have HDEC := Lib.hid hdec; have HBA := Lib.hid hba'; have HVA := Lib.hid hv1; have HCA := Lib.hid hca; have HPA := Lib.hid hPa; have HNA := Lib.hid hNa; have HTA := Lib.hid hTa
    obtain ⟨v1a, v1c, rfl⟩ := hv1.shape
    have hla := blk_lt hca
    clear hdec hba hba' hv1 hca hPa hNa hTa hdd HPL HN HT HB HCW s0 s1 s2 hW HRD hlW
    go_wp2_with (fail)
    refine HDEC.out.mono ?_
    rintro e wb ⟨v2, rfl, hv2, hbb⟩
    have hbb' := HBA.out.trans (hbb.mono HBA.out.size)
    have hcb := (hbb.block _ hla).trans HCA.out
    have s0 : wb.cell? ⟨w2.heap.size, 0, none⟩ = some (.int .i64 33) := blk_cell hcb rfl
    have s1 : wb.cell? ⟨w2.heap.size, 1, none⟩ = some (.int .i64 0) := blk_cell hcb rfl
    have s2 : wb.cell? ⟨w2.heap.size, 2, none⟩ = some (.slice lao (k + m) lc) := blk_cell hcb rfl
    have HBB := Lib.hid hbb'; have HVB1 := Lib.hid (HVA.out.below hbb); have HVB2 := Lib.hid hv2; have HPB := Lib.hid (HPA.out.ext hbb); have HNB := Lib.hid (HNA.out.below hbb); have HTB := Lib.hid (HTA.out.below hbb)
    obtain ⟨v2a, v2c, rfl⟩ := hv2.shape
    clear hbb hbb' hcb hv2 HDEC HVA HBA HPA HNA HTA HCA
    go_wp2_with (fail)
    refine (one_any k m b1 b2 b3 HPB.out HC.out 33 0 _ (locsM (k + m) (k + m)) HNB.out (locsM_length _ _) j).mono ?_
    rintro e wc ⟨v3, rfl, hv3, hbc⟩
    rw [HON.out] at hv3 ⊢
    have hreb := rebuild_any k m b1 b2 b3 (HTB.out.below hbc) HRL.out H8.out j
    obtain ⟨rr, hrr⟩ : ∃ rr, rebM k m sh j = rr := ⟨_, rfl⟩
    rw [hrr] at hv3 hreb sm2 ⊢
    have HREB := Lib.hid hreb; have HBC := Lib.hid (HBB.out.trans (hbc.mono HBB.out.size)); have HVC1 := Lib.hid (HVB1.out.below hbc); have HVC2 := Lib.hid (HVB2.out.below hbc); have HVC3 := Lib.hid hv3
    obtain ⟨v3a, v3c, rfl⟩ := hv3.shape
    clear hreb hbc hv3 hrr HVB1 HVB2 HBB HPB HNB HTB s0 s1 s2 HON
    go_wp2_with (fail)
    refine HREB.out.mono ?_
    rintro e wd ⟨v4, rfl, hv4, hbd⟩
    have HBD := Lib.hid (HBC.out.trans (hbd.mono HBC.out.size)); have HVD1 := Lib.hid (HVC1.out.below hbd); have HVD2 := Lib.hid (HVC2.out.below hbd); have HVD3 := Lib.hid (HVC3.out.below hbd); have HVD4 := Lib.hid hv4
    obtain ⟨v4a, v4c, rfl⟩ := hv4.shape
    clear hbd hv4 HREB HVC1 HVC2 HVC3 HBC
    go_wp2_with (fail)
    refine (answers15 _).mono ?_
    rintro e we ⟨rfl, hbe⟩
    have HBE := Lib.hid (HBD.out.trans (hbe.mono HBD.out.size)); have HVE1 := Lib.hid (HVD1.out.below hbe); have HVE2 := Lib.hid (HVD2.out.below hbe); have HVE3 := Lib.hid (HVD3.out.below hbe); have HVE4 := Lib.hid (HVD4.out.below hbe)
    have t1 : dd.1.length ≤ 1000000 := by omega
    have t2 : rr.1.length ≤ 1000000 := by omega
    clear hbe HVD1 HVD2 HVD3 HVD4 HBD
    go_wp2_with (fail)
    refine (same_same HVE1.out HVE2.out t1).mono ?_
    rintro e wf ⟨rfl, hbf⟩
    have HBF := Lib.hid (HBE.out.trans (hbf.mono HBE.out.size)); have HVF3 := Lib.hid (HVE3.out.below hbf); have HVF4 := Lib.hid (HVE4.out.below hbf)
    clear hbf HVE1 HVE2 HVE3 HVE4 HBE
    go_wp2_with (fail)
    refine (same_same HVF3.out HVF4.out t2).mono ?_
    rintro e wg ⟨rfl, hbg⟩
    go_wp2
    go_ret
    exact ⟨rfl, HBF.out.trans (hbg.mono HBF.out.size)⟩
end Go.Proofs.Fl

namespace Go.Proofs.Fl
open Go.RowKit

/-! ### ShardChanged -/
def lackK (x : UInt8) : Nat → UInt8 × Nat
  | 0 => (0, 0)
  | i + 1 => if bitB x i ∧ (lackK x i).2 < 2 then ((lackK x i).1 ||| (1 <<< UInt8.ofNat i), (lackK x i).2 + 1) else lackK x i
theorem lackK_stop (x : UInt8) (i : Nat) (h : ¬ (lackK x i).2 < 2) : ∀ j, i ≤ j → lackK x j = lackK x i := by
  intro j hj
  obtain ⟨d, rfl⟩ : ∃ d, j = i + d := ⟨j - i, by omega⟩
  induction d with
  | zero => rfl
  | succ d ih =>
    have := ih (by omega)
    show (if bitB x (i + d) ∧ (lackK x (i + d)).2 < 2 then _ else lackK x (i + d)) = _
    rw [this, if_neg (fun h' => h h'.2)]
theorem lackK_le (x : UInt8) (i : Nat) : (lackK x i).2 ≤ 2 := by
  induction i with
  | zero => simp [lackK]
  | succ i ih =>
    unfold lackK
    split
    · show _ + 1 ≤ 2; omega
    · exact ih
theorem lack_there (x : UInt8) : 3 ≤ thereK (lackK x 5).1 0 5 := by
  have := u8_all (fun x => decide (3 ≤ thereK (lackK x 5).1 0 5)) (by decide +kernel) x
  exact of_decide_eq_true this
theorem changed_one (d : Bytes) (x : UInt8) (j : Nat) (hj : j < 5) {pm : PM} (h : PH pm (laidL 5 (rencM 3 2 (fullM 3 d)) (lackK x 5).1 0 5)) :
    oneM 3 2 pm 33 (locsM 5 5) j = ((rencM 3 2 (fullM 3 d)).getD j [], 0) := by
  have hga := laidM_read 3 2 (by decide) (by decide) (by decide) d (lackK x 5).1 0 h
  have hdec := laidM_dec 3 2 (by decide) (by decide) (by decide) d (lackK x 5).1 0 (lack_there x)
  unfold oneM
  rw [show (locsM 5 5).length = 5 from locsM_length 5 5, show gatherK pm 33 (locsM 5 5) 5 = _ from hga]
  unfold rebM
  rw [hdec, if_neg (by simp), if_neg (by omega)]
  rfl
theorem all_row (d : Bytes) (j : Nat) (hj : j < 5) : (laidM 3 2 d 0 0).2.getD j [] = (rencM 3 2 (fullM 3 d)).getD j [] := by
  rw [laidM_row 3 2 d 0 0 j hj]
  unfold haveB
  rw [bit0]; rfl

theorem or_bit (a : UInt8) (j : Nat) (hj : j < 5) : bits BinOp.or IntKind.u8 (a.toNat : Int) ((2 : Int) ^ j % 256) = ((a ||| (1 <<< UInt8.ofNat j)).toNat : Int) := by
  have h : ∀ j, j ∈ List.range 5 → bits BinOp.or IntKind.u8 (a.toNat : Int) ((2 : Int) ^ j % 256) = ((a ||| (1 <<< UInt8.ofNat j)).toNat : Int) := by
    have := u8_all (fun a => (List.range 5).all fun j => decide (bits BinOp.or IntKind.u8 (a.toNat : Int) ((2 : Int) ^ j % 256) = ((a ||| (1 <<< UInt8.ofNat j)).toNat : Int))) (by decide +kernel) a
    intro j hj
    exact of_decide_eq_true (List.all_eq_true.1 this j hj)
  exact h j (List.mem_range.2 hj)
set_option maxHeartbeats 4000000 in
set_option maxRecDepth 100000 in
theorem changed_law {dv : Value} {d : Bytes} {w : World} (hD : DatB w (fun b => b < w.heap.size) dv d) (hd0 : d.length ≤ maxLen) (x : UInt8) :
    Calls Try.prog 12 #[dv, .int .u8 x.toNat] w fun e w' => e = .returned (.bool true) ∧ Below w.heap.size w w' := by
  have HD := Lib.hid hD
  obtain ⟨dao, dc, rfl⟩ := hD.shape
  clear hD
  have hd0i : (d.length : Int) ≤ 9223372036854775807 := by unfold maxLen at hd0; omega
  by_cases hbig : 100 < d.length
  · have hbi : (100 : Int) < (d.length : Int) := by omega
    clear hd0
    go_enter Try.func12, Try.ntmps12
    go_wp2_with (go_at_call 44; refine (answers15 _).mono ?_; rintro e w1 ⟨rfl, hb1⟩)
    go_ret
    exact ⟨rfl, hb1⟩
  · have hbi : ¬ (100 : Int) < (d.length : Int) := by omega
    clear hd0
    go_enter Try.func12, Try.ntmps12
    go_wp2
    go_loop [5, 6, 7] (fun a b i => ∃ j : Nat, j ≤ 5 ∧ i = .int .i64 j ∧ a = .int .u8 (lackK x j).1.toNat ∧ b = .int .i64 (lackK x j).2) (fun _ _ i => 5 - (intOf i).toNat)
    case atStart => exact ⟨0, by omega, rfl, rfl, rfl⟩
    case round =>
      obtain ⟨j, hj, rfl, rfl, rfl⟩ := hrel
      have hle := lackK_le x j
      by_cases hlt : j < 5 ∧ (lackK x j).2 < 2
      · obtain ⟨hl1, hl2⟩ := hlt
        have hs : lackK x (j + 1) = if bitB x j ∧ (lackK x j).2 < 2 then ((lackK x j).1 ||| (1 <<< UInt8.ofNat j), (lackK x j).2 + 1) else lackK x j := rfl
        have hb1 := bit_int x j
        generalize lackK x j = t at *
        obtain ⟨tl, tn⟩ := t
        simp only at hs hle hl2
        cases hbx : bitB x j with
        | true =>
          rw [hbx, if_pos rfl] at hb1
          rw [hbx, if_pos ⟨rfl, hl2⟩] at hs
          have HS := Lib.hid hs
          clear hs hbx
          go_wp2
          go_round
          case rel => exact ⟨j + 1, by omega, by go_num, by rw [HS.out, or_bit _ _ hl1], by rw [HS.out]; go_num⟩
          case measure => simp [intOf]; omega
        | false =>
          rw [hbx, if_neg (by decide)] at hb1
          rw [hbx, if_neg (by simp)] at hs
          have HS := Lib.hid hs
          clear hs hbx
          go_wp2
          go_round
          case rel => exact ⟨j + 1, by omega, by go_num, by rw [HS.out], by rw [HS.out]⟩
          case measure => simp [intOf]; omega
      · have hfin : lackK x 5 = lackK x j := by
          by_cases h5 : j < 5
          · exact lackK_stop x j (fun h => hlt ⟨h5, h⟩) 5 hj
          · have : j = 5 := by omega
            rw [this]
        have hcase : (j < 5 ∧ ¬ (lackK x j).2 < 2) ∨ j = 5 := by
          by_cases h5 : j < 5
          · exact .inl ⟨h5, fun h => hlt ⟨h5, h⟩⟩
          · exact .inr (by omega)
        have HPART := fun pm (h : PH pm _) j hj => changed_one d x j hj (pm := pm) h
        have HCO := Lib.hid HPART
        clear HPART
        rw [hfin] at HCO
        generalize lackK x j = t at *
        obtain ⟨tl, tn⟩ := t
        simp only at hle HCO hcase
        clear hlt hfin
        rcases hcase with ⟨g1, g2⟩ | rfl
        all_goals
          go_wp2_with (fail)
          refine (laid_any 3 2 (by decide) (by decide) (by decide) HD.out (by omega) tl 0).mono ?_
          rintro e w2 ⟨pb, lv, tv, K, rfl, hK, hP, hN, hT, hb⟩
          obtain ⟨lao, lc, rfl, _⟩ := hN.open_
          obtain ⟨tao, tc, rfl⟩ := hT.shape
          have hPH := laidM_PH 3 2 (by decide) (by decide) (by decide) d tl 0
          rw [show (3 + 2 : Nat) = 5 from rfl, locsM_length] at *
          have hcm := hPH.calm
          have hone := fun j hj => HCO.out _ hPH j hj
          have hPL := hP.toL hb
          have hrl := laidM_rows 3 2 d tl 0
          rw [hrl]
          generalize (laidM 3 2 d tl 0).1 = pm at *
          obtain ⟨W, hW⟩ : ∃ W, w2.alloc (.cells #[.int .i64 33, .int .i64 0, .slice lao 5 lc] 67) = W := ⟨_, rfl⟩
          have hbW : Below w2.heap.size w2 W := by rw [← hW]; exact (Below.refl _ _).alloc (Nat.le_refl _) _
          have hcW : W.heap[w2.heap.size]? = some (.cells #[.int .i64 33, .int .i64 0, .slice lao 5 lc] 67 (0, 0)) := by rw [← hW]; exact heap_alloc_new _ _
          have hbw := hb.trans (hbW.mono hb.size)
          have HPL := Lib.hid (hPL.ext hbW); have HN := Lib.hid (hN.below hbW); have HB := Lib.hid hbw; have HCW := Lib.hid hcW; have HC := Lib.hid hcm; have HON := Lib.hid hone
          have HD2 := Lib.hid ((HD.out.below hbw).mono (T := fun b => b < W.heap.size) (fun b hb _ => hb))
          clear hK hP hN hT hb hPH hcm hone hPL hbW hcW hbw hrl HD HCO
          unfold stripeV
          go_wp2_with (fail)
          refine (laid_any 3 2 (by decide) (by decide) (by decide) HD2.out (by omega) 0 0).mono ?_
          rintro e w3 ⟨pb2, lv2, tv2, K2, rfl, _, _, hN2, hT2, hb3⟩
          obtain ⟨lao2, lc2, rfl, _⟩ := hN2.open_
          have hrl2 := laidM_rows 3 2 d 0 0
          have hrow := fun j hj => all_row d j hj
          have h8 := fun j (hj : j < 5) => renc_row 3 2 (fullM 3 d) (by decide) (fullM_length 3 (by decide) d) j hj
          generalize (laidM 3 2 d 0 0).2 = all at *
          rw [show (3 + 2 : Nat) = 5 from rfl] at hrl2
          obtain ⟨tb, to, tc2, rfl, _, htb, _, hcell⟩ := hT2.cellAt (by omega)
          rw [hrl2] at hcell ⊢
          have hbW2 : Below w3.heap.size w3 (w3.alloc (.cells #[.int .i64 33, .int .i64 0, .slice lao2 (locsM 5 5).length lc2] 67)) := (Below.refl _ _).alloc (Nat.le_refl _) _
          have hbz := hb3.trans (hbW2.mono hb3.size)
          have hbzw := HB.out.trans (hbz.mono HB.out.size)
          have hcz := (hbz.block _ (blk_lt HCW.out)).trans HCW.out
          obtain ⟨Z, hZ⟩ : ∃ Z, w3.alloc (.cells #[.int .i64 33, .int .i64 0, .slice lao2 (locsM 5 5).length lc2] 67) = Z := ⟨_, rfl⟩
          have hbZ : Below w3.heap.size w3 Z := by rw [← hZ]; exact hbW2
          have HPZ := Lib.hid (HPL.out.ext (hZ ▸ hbz)); have HNZ := Lib.hid (HN.out.below (hZ ▸ hbz)); have HBZ := Lib.hid (hZ ▸ hbzw); have HCZ := Lib.hid (hZ ▸ hcz)
          have HCELL := Lib.hid (fun j (hj : j < 5) => by
            obtain ⟨ao, kc, c1, c2⟩ := hcell j hj
            exact (⟨ao, kc, (hbZ.cell (p := ⟨tb, to + j, none⟩) htb).trans c1, c2.below hbZ⟩ : ∃ ao kc, Z.cell? ⟨tb, to + j, none⟩ = some (.slice ao (all.getD j []).length kc) ∧ Bs Z K2 (.slice ao (all.getD j []).length kc) (all.getD j [])))
          have htZ := Nat.lt_of_lt_of_le htb hbZ.size
          have HROW := Lib.hid hrow; have H8 := Lib.hid h8
          clear hN2 hT2 hb3 hcell hbW2 hbz hbzw hcz hbZ hrow h8 hrl2 HD2 HPL HN HB HCW
          rw [show (locsM 5 5).length = 5 from locsM_length 5 5] at *
          unfold stripeV
          go_wp2_with (fail)
          go_loopw [14] (fun i wr => ∃ j : Nat, j ≤ 5 ∧ i = .int .i64 j ∧ Below Z.heap.size Z wr) (fun i _ => 5 - (intOf i).toNat)
          case atStart => exact ⟨0, by omega, rfl, Below.refl _ _⟩
          case round =>
            obtain ⟨i, hi, rfl, hbr⟩ := hrel
            have hbw := HBZ.out.trans (hbr.mono HBZ.out.size)
            by_cases hlt : i < 5
            · have hone := HON.out i hlt
              have hcr := (hbr.block _ (blk_lt HCZ.out)).trans HCZ.out
              have s0 : wr.cell? ⟨w2.heap.size, 0, none⟩ = some (.int .i64 33) := blk_cell hcr rfl
              have s1 : wr.cell? ⟨w2.heap.size, 1, none⟩ = some (.int .i64 0) := blk_cell hcr rfl
              have s2 : wr.cell? ⟨w2.heap.size, 2, none⟩ = some (.slice lao 5 lc) := blk_cell hcr rfl
              have hc := one_any 3 2 (by decide) (by decide) (by decide) (HPZ.out.ext hbr) HC.out 33 0 _ (locsM 5 5) (HNZ.out.below hbr) (by decide) i
              rw [hone] at hc
              obtain ⟨ao, kc, c1, c2⟩ := HCELL.out i hlt
              rw [HROW.out i hlt] at c1 c2
              have x1 := (hbr.cell (p := ⟨tb, to + i, none⟩) htZ).trans c1
              have hx := c2.below hbr
              have h8i := H8.out i hlt
              generalize (rencM 3 2 (fullM 3 d)).getD i [] = row at *
              rw [h8i] at x1 hx
              have HONE := Lib.hid hc; have HX := Lib.hid hx; have HBW := Lib.hid hbw; have HR8 := Lib.hid h8i
              clear hc hx hbw hcr hone c1 c2 h8i
              go_wp2_with (fail)
              refine HONE.out.mono ?_
              rintro e w5 ⟨v5, rfl, hv5, hb5⟩
              obtain ⟨v5a, v5c, rfl⟩ := hv5.shape
              have x5 := (hb5.cell (p := ⟨tb, to + i, none⟩) (Nat.lt_of_lt_of_le htZ hbr.size)).trans x1
              have HX5 := Lib.hid (HX.out.below hb5); have HV5 := Lib.hid hv5; have HB5 := Lib.hid (hbr.trans (hb5.mono hbr.size))
              have t1 : row.length ≤ 1000000 := by rw [HR8.out]; decide
              clear hv5 hb5 HONE s0 s1 s2 x1
              go_wp2_with (fail)
              refine (same_same HV5.out HX5.out t1).mono ?_
              rintro e w6 ⟨rfl, hb6⟩
              have HB6 := Lib.hid (HB5.out.trans (hb6.mono HB5.out.size))
              clear hb6 HB5 HV5 HX5 x5
              go_wp2
              go_roundw
              case rel => exact ⟨i + 1, by omega, by go_num, HB6.out⟩
              case measure => simp [intOf]; omega
            · obtain rfl : i = 5 := by omega
              have HBW := Lib.hid hbw
              clear hbw
              go_wp2_with (go_at_call 44; refine (answers15 _).mono ?_; rintro e w7 ⟨rfl, hb7⟩)
              go_ret
              exact ⟨rfl, HBW.out.trans (hb7.mono HBW.out.size)⟩
end Go.Proofs.Fl

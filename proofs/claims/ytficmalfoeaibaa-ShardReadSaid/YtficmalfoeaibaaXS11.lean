import Derived.Test.YtficmalfoeaibaaXS10
import Derived.Test.YtficmalfoeaibaaXT0
namespace Go.Proofs.Fl
open Go.RowKit

def OtI (B : Nat) (K : Nat → Prop) (pb : Nat) (all : List Bytes) (W : World) (i : Nat) (wr : World) : Prop :=
  ∃ pm, PoolF wr B K pb pm ∧ PH pm (othL all i) ∧ Mod (fun b => B ≤ b ∧ ¬ K b) W wr
theorem PoolF.more {w w' : World} {B : Nat} {K : Nat → Prop} {pb : Nat} {m : PM} (h : PoolF w B K pb m) (hb : Below w.heap.size w w') : PoolF w' B (fun b => K b ∨ (w.heap.size ≤ b ∧ b < w'.heap.size)) pb m :=
  h.move (Mod.of_below (fun _ => False) hb) (fun _ h => h.elim) (fun b h => by
    rcases h with h | h
    · exact .inl h
    · exact .inr h.1)
theorem Bs.fresh {w' : World} {S : Nat → Prop} {v : Value} {l : Bytes} {K : Nat → Prop} (h : Bs w' S v l) (hS : ∀ b, b < w'.heap.size → S b → K b) : Bs w' K v l := h.mono hS

theorem same_same {S T : Nat → Prop} {va vb : Value} {a : Bytes} {w : World} (hA : Bs w S va a) (hB : Bs w T vb a) (ha : a.length ≤ 1000000) :
    Calls Try.prog 35 #[va, vb] w fun e w' => e = .returned (.bool true) ∧ Below w.heap.size w w' := by
  refine (same_any hA hB ha ha).mono ?_
  rintro e w' ⟨rfl, hb⟩
  exact ⟨by rw [decide_eq_true rfl], hb⟩
set_option maxHeartbeats 4000000 in
set_option maxRecDepth 100000 in
theorem other_law {dv : Value} {d : Bytes} {w : World} (hD : DatB w (fun b => b < w.heap.size) dv d) (hd0 : d.length ≤ maxLen) (x : UInt8) :
    Calls Try.prog 8 #[dv, .int .u8 x.toNat] w fun e w' => e = .returned (.bool true) ∧ Below w.heap.size w w' := by
  have HD := Lib.hid hD
  obtain ⟨dao, dc, rfl⟩ := hD.shape
  clear hD
  have hd0i : (d.length : Int) ≤ 9223372036854775807 := by unfold maxLen at hd0; omega
  by_cases hbig : 100 < d.length
  · have hbi : (100 : Int) < (d.length : Int) := by omega
    clear hd0
    go_enter Try.func8, Try.ntmps8
    go_wp2_with (go_at_call 44; refine (answers15 _).mono ?_; rintro e w1 ⟨rfl, hb1⟩)
    go_ret
    exact ⟨rfl, hb1⟩
  · have hbi : ¬ (100 : Int) < (d.length : Int) := by omega
    clear hd0
    go_enter Try.func8, Try.ntmps8
    go_wp2_with (fail)
    refine (laid_any 2 1 (by decide) (by decide) (by decide) HD.out (by omega) 0 0).mono ?_
    rintro e w2 ⟨pb, lv, tv, K, rfl, hK, hP, hN, hT, hb⟩
    obtain ⟨lao, lc, rfl, _⟩ := hN.open_
    obtain ⟨tao, tc, rfl⟩ := hT.shape
    rw [show (2 + 1 : Nat) = 3 from rfl, locsM_length] at *
    have hPH := laidM_PH 2 1 (by decide) (by decide) (by decide) d 0 0
    rw [show (2 + 1 : Nat) = 3 from rfl, othL_zero] at hPH
    generalize (laidM 2 1 d 0 0).1 = pm at *
    obtain ⟨all, hall⟩ : ∃ all, rencM 2 1 (fullM 2 d) = all := ⟨_, rfl⟩
    rw [hall] at hPH
    have hbs := hb.size
    have HK := Lib.hid hK; have HP := Lib.hid hP; have HN := Lib.hid hN; have HB := Lib.hid hb; have HPH := Lib.hid hPH; have HALL := Lib.hid hall
    clear hK hP hN hT hb hPH hall
    unfold stripeV
    obtain ⟨W, hW⟩ : ∃ W, w2.alloc (.cells #[.int .i64 33, .int .i64 0, .slice lao 3 lc] 67) = W := ⟨_, rfl⟩
    have hbW : Below w2.heap.size w2 W := by rw [← hW]; exact (Below.refl _ _).alloc (Nat.le_refl _) _
    have hcW : W.heap[w2.heap.size]? = some (.cells #[.int .i64 33, .int .i64 0, .slice lao 3 lc] 67 (0, 0)) := by rw [← hW]; exact heap_alloc_new _ _
    have hsW : W.heap.size = w2.heap.size + 1 := by rw [← hW]; simp
    have HCW := Lib.hid hcW; have HBW := Lib.hid hbW
    have HL := Lib.hid (own_lit0 W W.heap.size tU8 1 (Nat.le_refl _))
    have HD1 := Lib.hid (((HD.out.below (HB.out.trans ((hbW.trans ((Below.refl _ _).alloc (by omega) (.cells #[] tU8))).mono hbs)))).mono (T := fun _ => True) (fun _ _ _ => trivial))
    have HSW := Lib.hid hsW
    clear hcW hbW HD hsW
    go_wp2_with (at_builtin; refine wpList_app_dat rfl _ _ _ rfl E28 W.heap.size HL.out HD1.out rfl rfl (by omega) (by simp) ?_)
    intro v1 w4 o1 g1
    have hb4 := Grew.new ((Below.refl W.heap.size W).alloc (Nat.le_refl _) (.cells #[] tU8)) (by simp) g1 (fun g hg => (HL.out.lt g hg).1)
    have hb4s := hb4.size
    obtain ⟨a1, n1, c1, rfl⟩ := own_shape o1
    have O1 := Lib.hid o1; have B4 := Lib.hid hb4
    clear o1 g1 hb4 HL HD1
    go_wp2_with (at_builtin; refine wpList_zeros rfl _ _ _ _ rfl E28 (k := .i64) (by rfl) W.heap.size _ 32 O1.out rfl rfl rfl rfl (by omega) hb4s ?_)
    intro v2 w5 o2 g2
    have hb5 := Grew.new B4.out hb4s g2 (fun g hg => (O1.out.lt g hg).1)
    have hb5s := hb5.size
    have o2' : w5.ownsRow W.heap.size tU8 1 v2 (d.length + 32) (u8s (d ++ List.replicate 32 0)) := by
      rw [u8s_append, ← u8s_zeros]
      simpa using o2
    have hB2 := Bs.of_own o2' (fun b => W.heap.size ≤ b) (fun b hb _ => hb)
    obtain ⟨a2, c2, rfl⟩ := hB2.shape
    have hl2 : (d ++ List.replicate 32 (0 : UInt8)).length = d.length + 32 := by simp
    rw [hl2] at hB2
    have hc2 := hB2.cap
    have hBf : Bs w5 (fun b => W.heap.size ≤ b) (.slice a2 16 c2) (fullM 2 d) := hB2.take 16 (by omega)
    have hc3 : ¬ c2 = 0 := by omega
    obtain ⟨b2, q2, _, hq⟩ : ∃ b2 q2 c, (Value.slice a2 (d.length + 32) c2) = .slice (some ⟨b2, q2, none⟩) (d.length + 32) c := by
      obtain ⟨b, o, c, e, _⟩ := (by rw [← hl2] at hB2; exact hB2 : Bs w5 (fun b => W.heap.size ≤ b) (.slice a2 (d ++ List.replicate 32 (0 : UInt8)).length c2) (d ++ List.replicate 32 (0 : UInt8))).cellAt (by simp)
      rw [hl2] at e
      exact ⟨b, o, c, e⟩
    have ea : a2 = some ⟨b2, q2, none⟩ := by injection hq
    subst ea
    have HBF := Lib.hid hBf
    -- the pool, the stripe's box and the data in the world ahead of the loop
    have hbW5 := HBW.out.trans (hb5.mono (by have := HSW.out; omega))
    obtain ⟨K5, hK5⟩ : ∃ K5 : Nat → Prop, (fun b => K b ∨ (w2.heap.size ≤ b ∧ b < w5.heap.size)) = K5 := ⟨_, rfl⟩
    have hP5 := HP.out.more hbW5
    rw [hK5] at hP5
    have k5 : ∀ b, K5 b → w.heap.size ≤ b ∧ b < w5.heap.size := fun b h => by
      rw [← hK5] at h
      have := HSW.out
      rcases h with h | h
      · have := HK.out b h; omega
      · omega
    have k5a : ∀ b, K b → K5 b := fun b h => by rw [← hK5]; exact .inl h
    have k5b : ∀ b, w2.heap.size ≤ b → b < w5.heap.size → K5 b := fun b h h' => by rw [← hK5]; exact .inr ⟨h, h'⟩
    have hN5 : Ns w5 K5 (.slice lao 3 lc) (locsM 3 3) := Sv.mono (HN.out.below hbW5) (fun b _ h => k5a b h)
    have hc5 := (hb5.block w2.heap.size (by have := HSW.out; omega)).trans HCW.out
    have hl5 := blk_lt hc5
    have hF5 : Bs w5 K5 (.slice (some ⟨b2, q2, none⟩) 16 c2) (fullM 2 d) := hBf.mono (fun b hb h => k5b b (by have := HSW.out; omega) hb)
    obtain ⟨lb, lo, lc', hle, lS, ll, _, lcell⟩ := Sv.cellAt hN5 (by decide)
    have hla : lao = some ⟨lb, lo, none⟩ := by injection hle
    subst hla
    have lcell' : ∀ j : Nat, j < 3 → w5.cell? ⟨lb, lo + j, none⟩ = some (.int .i64 ((2 - j : Nat) : Int)) := fun j hj => by
      rw [lcell j hj]
      have : j = 0 ∨ j = 1 ∨ j = 2 := by omega
      rcases this with rfl | rfl | rfl <;> rfl
    have hBW5 := HB.out.trans (hbW5.mono hbs)
    have HP5 := Lib.hid hP5; have HK5 := Lib.hid k5; have HN5 := Lib.hid hN5; have HC5 := Lib.hid hc5; have HF5 := Lib.hid hF5; have HLC := Lib.hid lcell'; have HBW5 := Lib.hid hBW5
    have k2 := k5b w2.heap.size (Nat.le_refl _) (by omega)
    rw [hl2]
    clear o2 o2' g2 O1 B4 hB2 hBf hq hb5 hP5 k5 hN5 hc5 hF5 lcell lcell' hbW5 hBW5 hK5 k5a k5b HBF HCW HBW HN HP HB HK hle
    go_wp2_with (fail)
    have HI0 := Lib.hid (show OtI w.heap.size K5 pb all w5 0 w5 from ⟨pm, HP5.out, HPH.out, Mod.refl _ _⟩)
    have l5 : w.heap.size ≤ w5.heap.size := HBW5.out.size
    clear HP5 HPH
    go_loopw [9] (fun i wr => ∃ j : Nat, j ≤ 3 ∧ i = .int .i64 j ∧ OtI w.heap.size K5 pb all w5 j wr) (fun i _ => 3 - (intOf i).toNat)
    case atStart => exact ⟨0, by omega, rfl, HI0.out⟩
    case round =>
      obtain ⟨j, hj, rfl, pm, hP, hPH, hm⟩ := hrel
      have hms := hm.size
      have hcr := blk_mod hm HC5.out (fun h => h.2 k2)
      have hlr := blk_lt hcr
      by_cases hlt : j < 3
      · have s2 : wr.cell? ⟨w2.heap.size, 2, none⟩ = some (.slice (some ⟨lb, lo, none⟩) 3 lc) := blk_cell hcr rfl
        have x1 := (hm.cell (p := ⟨lb, lo + j, none⟩) ll (fun h => h.2 lS)).trans (HLC.out j hlt)
        have hcalm := hPH.calm
        obtain ⟨m1, e1, hc1, m2, e2, hPH2⟩ := oth_round hPH hlt
        have kc := fun (w : World) (C : Array Value) (n c : Nat) => Lib.run_convert_bytes_const (P := Try.prog) w 28 5 C n c Try.underlying28 Try.underlying5
        have HP := Lib.hid hP; have HM := Lib.hid hm; have HP2 := Lib.hid hPH2; have HC1 := Lib.hid hc1; have HCM := Lib.hid hcalm; have E1 := Lib.hid e1; have E2 := Lib.hid e2; have HCR := Lib.hid hcr
        have Z0 := Lib.hid HI0
        clear hP hm hPH2 hc1 hPH hcr hcalm e1 e2
        generalize hjj : (2 - j : Nat) = jj at *
        clear hjj
        go_wp2_with (fail)
        refine (PF_store (HP.out.move (K' := K5) (Mod.of_below (fun _ => False) ((Below.refl _ _).alloc (Nat.le_refl _) _)) (fun _ h => h.elim) (fun b h => .inl h)) (fun b h => by have := (HK5.out b h).2; simp; omega) (by simp; omega) HCM.out j 34 jj (Bs.lit wr _ _ _ num8 rfl (by decide))).mono ?_
        rintro e w6 ⟨rfl, hP6, hm6⟩
        rw [E1.out] at hP6 ⊢
        have hm6' : Mod (fun b => w.heap.size ≤ b ∧ ¬ K5 b) wr w6 := (Mod.of_below _ ((Below.refl _ _).alloc (Nat.le_refl _) _)).trans hm6
        have hs6 := hm6'.size
        have HP6 := Lib.hid hP6; have HM6 := Lib.hid (HM.out.trans hm6')
        clear hP6 hm6 hm6' HP HM E1 s2 x1
        go_wp2_with (fail)
        refine (PF_store (HP6.out.move (K' := K5) (Mod.of_below (fun _ => False) ((Below.refl _ _).alloc (Nat.le_refl _) _)) (fun _ h => h.elim) (fun b h => .inl h)) (fun b h => by have := (HK5.out b h).2; simp; omega) (by simp; omega) HC1.out j 33 7 (Bs.lit w6 _ _ _ num8 rfl (by decide))).mono ?_
        rintro e w7 ⟨rfl, hP7, hm7⟩
        rw [E2.out] at hP7 ⊢
        have HR := Lib.hid (show OtI w.heap.size K5 pb all w5 (j + 1) w7 from ⟨m2, hP7, HP2.out, HM6.out.trans ((Mod.of_below _ ((Below.refl _ _).alloc (Nat.le_refl _) _)).trans hm7)⟩)
        clear hP7 hm7 HP6 HM6 E2 kc
        go_wp2
        go_roundw
        case rel => exact ⟨j + 1, by omega, by go_num, HR.out⟩
        case measure => simp [intOf]; omega
      · obtain rfl : j = 3 := by omega
        -- the three reads
        have hx256 := x.toNat_lt
        have e3 : x.toNat % 3 ≠ (x.toNat + 1) % 3 := by omega
        obtain ⟨qa, hqa⟩ : ∃ qa, x.toNat % 3 = qa := ⟨_, rfl⟩
        obtain ⟨qb, hqb⟩ : ∃ qb, (x.toNat + 1) % 3 = qb := ⟨_, rfl⟩
        have hqa3 : qa < 3 := by omega
        have hqb3 : qb < 3 := by omega
        have hqai : (x.toNat : Int) % 3 = (qa : Int) := by omega
        have hqbi : ((x.toNat : Int) + 1) % 3 = (qb : Int) := by omega
        have hqai' : ((x.toNat : Int)).tmod 3 = (qa : Int) := by rw [Int.tmod_eq_emod_of_nonneg (by omega)]; omega
        have hqbi' : ((x.toNat : Int) + 1).tmod 3 = (qb : Int) := by rw [Int.tmod_eq_emod_of_nonneg (by omega)]; omega
        have hql : pm.list.length = 3 := by rw [hPH.len, othL_length]
        rw [← HALL.out] at hPH
        obtain ⟨r1, r2, r3⟩ := oth_reads d hPH qa qb hqa3 hqb3 (by omega)
        have hcalm := hPH.calm
        have hcalm2 := calm_set hcalm qa DM.lose (by simp [DM.lose])
        have hcalm3 := calm_set hcalm2 qb DM.lose (by simp [DM.lose])
        have hb1 := below_mod HBW5.out l5 hm (fun b h => h.1)
        have hNr : Ns wr K5 (.slice (some ⟨lb, lo, none⟩) 3 lc) (locsM 3 3) := Sv.kept HN5.out hm (fun b _ h h' => h'.2 h)
        have hFr := HF5.out.kept hm (fun b _ h h' => h'.2 h)
        have s0 : wr.cell? ⟨w2.heap.size, 0, none⟩ = some (.int .i64 33) := blk_cell hcr rfl
        have s1 : wr.cell? ⟨w2.heap.size, 1, none⟩ = some (.int .i64 0) := blk_cell hcr rfl
        have s2 : wr.cell? ⟨w2.heap.size, 2, none⟩ = some (.slice (some ⟨lb, lo, none⟩) 3 lc) := blk_cell hcr rfl
        have R1 := Lib.hid r1; have R2 := Lib.hid r2; have R3 := Lib.hid r3; have C1 := Lib.hid hcalm; have C2 := Lib.hid hcalm2; have C3 := Lib.hid hcalm3
        have HP := Lib.hid hP; have HB1 := Lib.hid hb1; have HNR := Lib.hid hNr; have HFR := Lib.hid hFr; have HCR := Lib.hid hcr; have HQL := Lib.hid hql
        clear hP hm hPH hcr r1 r2 r3 hcalm hcalm2 hcalm3 hb1 hNr hFr hqa hqb HF5 HC5 HN5 HI0 HBW5 HLC hql
        go_wp2_with (fail)
        refine (read_any 2 1 (by decide) (by decide) (by decide) (HP.out.toL HB1.out) C1.out 33 0 _ (locsM 3 3) HNR.out (by decide)).mono ?_
        rintro e wa ⟨v1, rfl, hv1, hba⟩
        rw [R1.out] at hv1 ⊢
        have hbas := hba.size
        obtain ⟨K6, hK6⟩ : ∃ K6 : Nat → Prop, (fun b => K5 b ∨ (wr.heap.size ≤ b ∧ b < wa.heap.size)) = K6 := ⟨_, rfl⟩
        have hPa := HP.out.more hba
        rw [hK6] at hPa
        have k6 : ∀ b, K6 b → b < wa.heap.size := fun b h => by
          rw [← hK6] at h
          rcases h with h | h
          · have := (HK5.out b h).2; omega
          · omega
        have k6a : ∀ b, K5 b → K6 b := fun b h => by rw [← hK6]; exact .inl h
        have k6b : ∀ b, b < wa.heap.size → Fresh wr b → K6 b := fun b h h' => by rw [← hK6]; exact .inr ⟨h', h⟩
        have hBa := HB1.out.trans (hba.mono HB1.out.size)
        obtain ⟨db, c30, c39⟩ := PF_lose hPa k6 hBa.size qa (by rw [HQL.out]; exact hqa3)
        have hca := (hba.block _ hlr).trans HCR.out
        have hva : Bs wa K6 v1 (fullM 2 d) := hv1.mono k6b
        have hNa : Ns wa K6 (.slice (some ⟨lb, lo, none⟩) 3 lc) (locsM 3 3) := Sv.mono (HNR.out.below hba) (fun b _ h => k6a b h)
        have hFa : Bs wa K6 (.slice (some ⟨b2, q2, none⟩) 16 c2) (fullM 2 d) := (HFR.out.below hba).mono (fun b _ h => k6a b h)
        have C39 := Lib.hid c39; have HBA := Lib.hid hBa; have HCA := Lib.hid hca; have HVA := Lib.hid hva; have HNA := Lib.hid hNa; have HFA := Lib.hid hFa; have K6L := Lib.hid k6
        obtain ⟨v1a, v1c, rfl⟩ := hva.shape
        have k26 := k6a _ k2
        have hla := blk_lt hca
        clear c39 hBa hca hva hNa hFa k6 k6a k6b hK6 hPa hv1 hba HP HB1 HNR HFR HCR C1 R1 s0 s1 s2
        go_wp2_with (go_at_call 30; refine c30.mono ?_; rintro e wy ⟨rfl, rfl⟩)
        refine C39.out.mono ?_
        rintro e wb ⟨rfl, hPb, hmb⟩
        clear c30 C39
        have hbb := below_mod HBA.out HBA.out.size hmb (fun b h => h.1)
        have hcb := blk_mod hmb HCA.out (fun h => h.2 k26)
        have hvb := HVA.out.kept hmb (fun b _ h h' => h'.2 h)
        have hNb : Ns wb K6 (.slice (some ⟨lb, lo, none⟩) 3 lc) (locsM 3 3) := Sv.kept HNA.out hmb (fun b _ h h' => h'.2 h)
        have hFb := HFA.out.kept hmb (fun b _ h h' => h'.2 h)
        have hsb := hmb.size
        have s0 : wb.cell? ⟨w2.heap.size, 0, none⟩ = some (.int .i64 33) := blk_cell hcb rfl
        have s1 : wb.cell? ⟨w2.heap.size, 1, none⟩ = some (.int .i64 0) := blk_cell hcb rfl
        have s2 : wb.cell? ⟨w2.heap.size, 2, none⟩ = some (.slice (some ⟨lb, lo, none⟩) 3 lc) := blk_cell hcb rfl
        have hlb := blk_lt hcb
        have HPB := Lib.hid hPb; have HBB := Lib.hid hbb; have HCB := Lib.hid hcb; have HVB := Lib.hid hvb; have HNB := Lib.hid hNb; have HFB := Lib.hid hFb
        clear hPb hmb hbb hcb hvb hNb hFb HBA HCA HVA HNA HFA
        go_wp2_with (fail)
        refine (read_any 2 1 (by decide) (by decide) (by decide) (HPB.out.toL HBB.out) C2.out 33 0 _ (locsM 3 3) HNB.out (by decide)).mono ?_
        rintro e wc ⟨v2, rfl, hv2, hbc⟩
        rw [R2.out] at hv2 ⊢
        have hbcs := hbc.size
        obtain ⟨K7, hK7⟩ : ∃ K7 : Nat → Prop, (fun b => K6 b ∨ (wb.heap.size ≤ b ∧ b < wc.heap.size)) = K7 := ⟨_, rfl⟩
        have hPc := HPB.out.more hbc
        rw [hK7] at hPc
        have k7 : ∀ b, K7 b → b < wc.heap.size := fun b h => by
          rw [← hK7] at h
          rcases h with h | h
          · have := K6L.out b h; omega
          · omega
        have k7a : ∀ b, K6 b → K7 b := fun b h => by rw [← hK7]; exact .inl h
        have k7b : ∀ b, b < wc.heap.size → Fresh wb b → K7 b := fun b h h' => by rw [← hK7]; exact .inr ⟨h', h⟩
        have hBc := HBB.out.trans (hbc.mono HBB.out.size)
        obtain ⟨db2, c30, c39⟩ := PF_lose hPc k7 hBc.size qb (by rw [setD_len, HQL.out]; exact hqb3)
        have hcc := (hbc.block _ hlb).trans HCB.out
        have hvc : Bs wc K7 (.slice v1a (fullM 2 d).length v1c) (fullM 2 d) := (HVB.out.below hbc).mono (fun b _ h => k7a b h)
        have hvc2 : Bs wc K7 v2 (fullM 2 d) := hv2.mono k7b
        have hNc : Ns wc K7 (.slice (some ⟨lb, lo, none⟩) 3 lc) (locsM 3 3) := Sv.mono (HNB.out.below hbc) (fun b _ h => k7a b h)
        have hFc : Bs wc K7 (.slice (some ⟨b2, q2, none⟩) 16 c2) (fullM 2 d) := (HFB.out.below hbc).mono (fun b _ h => k7a b h)
        have C39 := Lib.hid c39; have HBC := Lib.hid hBc; have HCC := Lib.hid hcc; have HVC := Lib.hid hvc; have HVC2 := Lib.hid hvc2; have HNC := Lib.hid hNc; have HFC := Lib.hid hFc
        obtain ⟨v2a, v2c, rfl⟩ := hvc2.shape
        have k27 := k7a _ k26
        clear c39 hBc hcc hvc hvc2 hNc hFc k7 k7a k7b hK7 hPc hv2 hbc HPB HBB HNB HFB HCB HVB C2 R2 s0 s1 s2
        go_wp2_with (go_at_call 30; refine c30.mono ?_; rintro e wy ⟨rfl, rfl⟩)
        refine C39.out.mono ?_
        rintro e wd ⟨rfl, hPd, hmd⟩
        clear c30 C39
        have hbd := below_mod HBC.out HBC.out.size hmd (fun b h => h.1)
        have hcd := blk_mod hmd HCC.out (fun h => h.2 k27)
        have hvd := HVC.out.kept hmd (fun b _ h h' => h'.2 h)
        have hvd2 := HVC2.out.kept hmd (fun b _ h h' => h'.2 h)
        have hNd : Ns wd K7 (.slice (some ⟨lb, lo, none⟩) 3 lc) (locsM 3 3) := Sv.kept HNC.out hmd (fun b _ h h' => h'.2 h)
        have hFd := HFC.out.kept hmd (fun b _ h h' => h'.2 h)
        have s0 : wd.cell? ⟨w2.heap.size, 0, none⟩ = some (.int .i64 33) := blk_cell hcd rfl
        have s1 : wd.cell? ⟨w2.heap.size, 1, none⟩ = some (.int .i64 0) := blk_cell hcd rfl
        have s2 : wd.cell? ⟨w2.heap.size, 2, none⟩ = some (.slice (some ⟨lb, lo, none⟩) 3 lc) := blk_cell hcd rfl
        have HPD := Lib.hid hPd; have HBD := Lib.hid hbd; have HVD := Lib.hid hvd; have HVD2 := Lib.hid hvd2; have HND := Lib.hid hNd; have HFD := Lib.hid hFd
        clear hPd hmd hbd hcd hvd hvd2 hNd hFd HBC HCC HVC HVC2 HNC HFC
        go_wp2_with (fail)
        refine (read_any 2 1 (by decide) (by decide) (by decide) (HPD.out.toL HBD.out) C3.out 33 0 _ (locsM 3 3) HND.out (by decide)).mono ?_
        rintro e we ⟨v3, rfl, hv3, hbe⟩
        rw [R3.out] at hv3 ⊢
        obtain ⟨v3a, v3c, rfl⟩ := hv3.shape
        have HBE := Lib.hid (HBD.out.trans (hbe.mono HBD.out.size)); have HVE := Lib.hid (HVD.out.below hbe); have HVE2 := Lib.hid (HVD2.out.below hbe); have HFE := Lib.hid (HFD.out.below hbe)
        clear hv3 hbe HPD HBD HVD HVD2 HND HFD C3 R3 s0 s1 s2
        go_wp2_with (fail)
        refine (answers15 _).mono ?_
        rintro e wf ⟨rfl, hbf⟩
        have HBF := Lib.hid (HBE.out.trans (hbf.mono HBE.out.size)); have HVF := Lib.hid (HVE.out.below hbf); have HVF2 := Lib.hid (HVE2.out.below hbf); have HFF := Lib.hid (HFE.out.below hbf)
        clear hbf HBE HVE HVE2 HFE
        have hl16 : (fullM 2 d).length ≤ 1000000 := by rw [fullM_length 2 (by decide) d]; decide
        go_wp2_with (fail)
        refine (same_same HVF.out HFF.out hl16).mono ?_
        rintro e wg ⟨rfl, hbg⟩
        have HBG := Lib.hid (HBF.out.trans (hbg.mono HBF.out.size)); have HVG := Lib.hid (HVF2.out.below hbg); have HFG := Lib.hid (HFF.out.below hbg)
        clear hbg HBF HVF HVF2 HFF
        go_wp2_with (fail)
        refine (same_same HVG.out HFG.out hl16).mono ?_
        rintro e wh ⟨rfl, hbh⟩
        go_wp2
        go_ret
        exact ⟨rfl, HBG.out.trans (hbh.mono HBG.out.size)⟩
end Go.Proofs.Fl

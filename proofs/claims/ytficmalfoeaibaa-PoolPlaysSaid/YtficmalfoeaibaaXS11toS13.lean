import Derived.Test.YtficmalfoeaibaaXS10
import Derived.Test.YtficmalfoeaibaaXT0
import Derived.Test.YtficmalfoeaibaaXU0toU2
namespace Go.Proofs.Fl
open Go.RowKit

def OtI (B : Nat) (K : Nat → Prop) (pb : Nat) (all : List Bytes) (W : World) (i : Nat) (wr : World) : Prop :=
  ∃ pm, PoolF wr B K pb pm ∧ PH pm (othL all i) ∧ Mod (fun b => B ≤ b ∧ ¬ K b) W wr
theorem PoolF.more {w w' : World} {B : Nat} {K : Nat → Prop} {pb : Nat} {m : PM} (h : PoolF w B K pb m) (hb : Below w.heap.size w w') : PoolF w' B (fun b => K b ∨ (w.heap.size ≤ b ∧ b < w'.heap.size)) pb m :=
  h.move (Mod.of_below (fun _ => False) hb) (fun _ h => h.elim) (fun b h => by
    rcases h with h | h
    · exact .inl h
    · exact .inr h.1)
theorem Bs.fresh {w' : World} {S : Nat → Prop} {v : Value} {l : Bytes} {K : Nat → Prop} (h : Bs w' S v l) (hS : ∀ b, b < w'.heap.size → S b → K b) : Bs w' K v l := h.mono hS

theorem same_same {S T : Nat → Prop} {va vb : Value} {a : Bytes} {w : World} (hA : Bs w S va a) (hB : Bs w T vb a) (ha : a.length ≤ 1000000) :
    Calls Try.prog 35 #[va, vb] w fun e w' => e = .returned (.bool true) ∧ Below w.heap.size w w' := by
  refine (same_any hA hB ha ha).mono ?_
  rintro e w' ⟨rfl, hb⟩
  exact ⟨by rw [decide_eq_true rfl], hb⟩
set_option maxHeartbeats 4000000 in
set_option maxRecDepth 100000 in
theorem other_law {dv : Value} {d : Bytes} {w : World} (hD : DatB w (fun b => b < w.heap.size) dv d) (hd0 : d.length ≤ maxLen) (x : UInt8) :
    Calls Try.prog 8 #[dv, .int .u8 x.toNat] w fun e w' => e = .returned (.bool true) ∧ Below w.heap.size w w' := by
  have HD := Lib.hid hD
  obtain ⟨dao, dc, rfl⟩ := hD.shape
  clear hD
  have hd0i : (d.length : Int) ≤ 9223372036854775807 := by unfold maxLen at hd0; omega
  by_cases hbig : 100 < d.length
  · have hbi : (100 : Int) < (d.length : Int) := by omega
    clear hd0
    go_enter Try.func8, Try.ntmps8
    go_wp2_with (go_at_call 44; refine (answers15 _).mono ?_; rintro e w1 ⟨rfl, hb1⟩)
    go_ret
    exact ⟨rfl, hb1⟩
  · have hbi : ¬ (100 : Int) < (d.length : Int) := by omega
    clear hd0
    go_enter Try.func8, Try.ntmps8
    go_wp2_with (fail)
    refine (laid_any 2 1 (by decide) (by decide) (by decide) HD.out (by omega) 0 0).mono ?_
    rintro e w2 ⟨pb, lv, tv, K, rfl, hK, hP, hN, hT, hb⟩
    obtain ⟨lao, lc, rfl, _⟩ := hN.open_
    obtain ⟨tao, tc, rfl⟩ := hT.shape
    rw [show (2 + 1 : Nat) = 3 from rfl, locsM_length] at *
    have hPH := laidM_PH 2 1 (by decide) (by decide) (by decide) d 0 0
    rw [show (2 + 1 : Nat) = 3 from rfl, othL_zero] at hPH
    generalize (laidM 2 1 d 0 0).1 = pm at *
    obtain ⟨all, hall⟩ : ∃ all, rencM 2 1 (fullM 2 d) = all := ⟨_, rfl⟩
    rw [hall] at hPH
    have hbs := hb.size
    have HK := Lib.hid hK; have HP := Lib.hid hP; have HN := Lib.hid hN; have HB := Lib.hid hb; have HPH := Lib.hid hPH; have HALL := Lib.hid hall
    clear hK hP hN hT hb hPH hall
    unfold stripeV
    obtain ⟨W, hW⟩ : ∃ W, w2.alloc (.cells #[.int .i64 33, .int .i64 0, .slice lao 3 lc] 67) = W := ⟨_, rfl⟩
    have hbW : Below w2.heap.size w2 W := by rw [← hW]; exact (Below.refl _ _).alloc (Nat.le_refl _) _
    have hcW : W.heap[w2.heap.size]? = some (.cells #[.int .i64 33, .int .i64 0, .slice lao 3 lc] 67 (0, 0)) := by rw [← hW]; exact heap_alloc_new _ _
    have hsW : W.heap.size = w2.heap.size + 1 := by rw [← hW]; simp
    have HCW := Lib.hid hcW; have HBW := Lib.hid hbW
    have HL := Lib.hid (own_lit0 W W.heap.size tU8 1 (Nat.le_refl _))
    have HD1 := Lib.hid (((HD.out.below (HB.out.trans ((hbW.trans ((Below.refl _ _).alloc (by omega) (.cells #[] tU8))).mono hbs)))).mono (T := fun _ => True) (fun _ _ _ => trivial))
    have HSW := Lib.hid hsW
    clear hcW hbW HD hsW
    go_wp2_with (at_builtin; refine wpList_app_dat rfl _ _ _ rfl E28 W.heap.size HL.out HD1.out rfl rfl (by omega) (by simp) ?_)
    intro v1 w4 o1 g1
    have hb4 := Grew.new ((Below.refl W.heap.size W).alloc (Nat.le_refl _) (.cells #[] tU8)) (by simp) g1 (fun g hg => (HL.out.lt g hg).1)
    have hb4s := hb4.size
    obtain ⟨a1, n1, c1, rfl⟩ := own_shape o1
    have O1 := Lib.hid o1; have B4 := Lib.hid hb4
    clear o1 g1 hb4 HL HD1
    go_wp2_with (at_builtin; refine wpList_zeros rfl _ _ _ _ rfl E28 (k := .i64) (by rfl) W.heap.size _ 32 O1.out rfl rfl rfl rfl (by omega) hb4s ?_)
    intro v2 w5 o2 g2
    have hb5 := Grew.new B4.out hb4s g2 (fun g hg => (O1.out.lt g hg).1)
    have hb5s := hb5.size
    have o2' : w5.ownsRow W.heap.size tU8 1 v2 (d.length + 32) (u8s (d ++ List.replicate 32 0)) := by
      rw [u8s_append, ← u8s_zeros]
      simpa using o2
    have hB2 := Bs.of_own o2' (fun b => W.heap.size ≤ b) (fun b hb _ => hb)
    obtain ⟨a2, c2, rfl⟩ := hB2.shape
    have hl2 : (d ++ List.replicate 32 (0 : UInt8)).length = d.length + 32 := by simp
    rw [hl2] at hB2
    have hc2 := hB2.cap
    have hBf : Bs w5 (fun b => W.heap.size ≤ b) (.slice a2 16 c2) (fullM 2 d) := hB2.take 16 (by omega)
    have hc3 : ¬ c2 = 0 := by omega
    obtain ⟨b2, q2, _, hq⟩ : ∃ b2 q2 c, (Value.slice a2 (d.length + 32) c2) = .slice (some ⟨b2, q2, none⟩) (d.length + 32) c := by
      obtain ⟨b, o, c, e, _⟩ := (by rw [← hl2] at hB2; exact hB2 : Bs w5 (fun b => W.heap.size ≤ b) (.slice a2 (d ++ List.replicate 32 (0 : UInt8)).length c2) (d ++ List.replicate 32 (0 : UInt8))).cellAt (by simp)
      rw [hl2] at e
      exact ⟨b, o, c, e⟩
    have ea : a2 = some ⟨b2, q2, none⟩ := by injection hq
    subst ea
    have HBF := Lib.hid hBf
    -- the pool, the stripe's box and the data in the world ahead of the loop
    have hbW5 := HBW.out.trans (hb5.mono (by have := HSW.out; omega))
    obtain ⟨K5, hK5⟩ : ∃ K5 : Nat → Prop, (fun b => K b ∨ (w2.heap.size ≤ b ∧ b < w5.heap.size)) = K5 := ⟨_, rfl⟩
    have hP5 := HP.out.more hbW5
    rw [hK5] at hP5
    have k5 : ∀ b, K5 b → w.heap.size ≤ b ∧ b < w5.heap.size := fun b h => by
      rw [← hK5] at h
      have := HSW.out
      rcases h with h | h
      · have := HK.out b h; omega
      · omega
    have k5a : ∀ b, K b → K5 b := fun b h => by rw [← hK5]; exact .inl h
    have k5b : ∀ b, w2.heap.size ≤ b → b < w5.heap.size → K5 b := fun b h h' => by rw [← hK5]; exact .inr ⟨h, h'⟩
    have hN5 : Ns w5 K5 (.slice lao 3 lc) (locsM 3 3) := Sv.mono (HN.out.below hbW5) (fun b _ h => k5a b h)
    have hc5 := (hb5.block w2.heap.size (by have := HSW.out; omega)).trans HCW.out
    have hl5 := blk_lt hc5
    have hF5 : Bs w5 K5 (.slice (some ⟨b2, q2, none⟩) 16 c2) (fullM 2 d) := hBf.mono (fun b hb h => k5b b (by have := HSW.out; omega) hb)
    obtain ⟨lb, lo, lc', hle, lS, ll, _, lcell⟩ := Sv.cellAt hN5 (by decide)
    have hla : lao = some ⟨lb, lo, none⟩ := by injection hle
    subst hla
    have lcell' : ∀ j : Nat, j < 3 → w5.cell? ⟨lb, lo + j, none⟩ = some (.int .i64 ((2 - j : Nat) : Int)) := fun j hj => by
      rw [lcell j hj]
      have : j = 0 ∨ j = 1 ∨ j = 2 := by omega
      rcases this with rfl | rfl | rfl <;> rfl
    have hBW5 := HB.out.trans (hbW5.mono hbs)
    have HP5 := Lib.hid hP5; have HK5 := Lib.hid k5; have HN5 := Lib.hid hN5; have HC5 := Lib.hid hc5; have HF5 := Lib.hid hF5; have HLC := Lib.hid lcell'; have HBW5 := Lib.hid hBW5
    have k2 := k5b w2.heap.size (Nat.le_refl _) (by omega)
    rw [hl2]
    clear o2 o2' g2 O1 B4 hB2 hBf hq hb5 hP5 k5 hN5 hc5 hF5 lcell lcell' hbW5 hBW5 hK5 k5a k5b HBF HCW HBW HN HP HB HK hle
    go_wp2_with (fail)
    have HI0 := Lib.hid (show OtI w.heap.size K5 pb all w5 0 w5 from ⟨pm, HP5.out, HPH.out, Mod.refl _ _⟩)
    have l5 : w.heap.size ≤ w5.heap.size := HBW5.out.size
    clear HP5 HPH
    go_loopw [9] (fun i wr => ∃ j : Nat, j ≤ 3 ∧ i = .int .i64 j ∧ OtI w.heap.size K5 pb all w5 j wr) (fun i _ => 3 - (intOf i).toNat)
    case atStart => exact ⟨0, by omega, rfl, HI0.out⟩
    case round =>
      obtain ⟨j, hj, rfl, pm, hP, hPH, hm⟩ := hrel
      have hms := hm.size
      have hcr := blk_mod hm HC5.out (fun h => h.2 k2)
      have hlr := blk_lt hcr
      by_cases hlt : j < 3
      · have s2 : wr.cell? ⟨w2.heap.size, 2, none⟩ = some (.slice (some ⟨lb, lo, none⟩) 3 lc) := blk_cell hcr rfl
        have x1 := (hm.cell (p := ⟨lb, lo + j, none⟩) ll (fun h => h.2 lS)).trans (HLC.out j hlt)
        have hcalm := hPH.calm
        obtain ⟨m1, e1, hc1, m2, e2, hPH2⟩ := oth_round hPH hlt
        have kc := fun (w : World) (C : Array Value) (n c : Nat) => Lib.run_convert_bytes_const (P := Try.prog) w 28 5 C n c Try.underlying28 Try.underlying5
        have HP := Lib.hid hP; have HM := Lib.hid hm; have HP2 := Lib.hid hPH2; have HC1 := Lib.hid hc1; have HCM := Lib.hid hcalm; have E1 := Lib.hid e1; have E2 := Lib.hid e2; have HCR := Lib.hid hcr
        have Z0 := Lib.hid HI0
        clear hP hm hPH2 hc1 hPH hcr hcalm e1 e2
        generalize hjj : (2 - j : Nat) = jj at *
        clear hjj
        go_wp2_with (fail)
        refine (PF_store (HP.out.move (K' := K5) (Mod.of_below (fun _ => False) ((Below.refl _ _).alloc (Nat.le_refl _) _)) (fun _ h => h.elim) (fun b h => .inl h)) (fun b h => by have := (HK5.out b h).2; simp; omega) (by simp; omega) HCM.out j 34 jj (Bs.lit wr _ _ _ num8 rfl (by decide))).mono ?_
        rintro e w6 ⟨rfl, hP6, hm6⟩
        rw [E1.out] at hP6 ⊢
        have hm6' : Mod (fun b => w.heap.size ≤ b ∧ ¬ K5 b) wr w6 := (Mod.of_below _ ((Below.refl _ _).alloc (Nat.le_refl _) _)).trans hm6
        have hs6 := hm6'.size
        have HP6 := Lib.hid hP6; have HM6 := Lib.hid (HM.out.trans hm6')
        clear hP6 hm6 hm6' HP HM E1 s2 x1
        go_wp2_with (fail)
        refine (PF_store (HP6.out.move (K' := K5) (Mod.of_below (fun _ => False) ((Below.refl _ _).alloc (Nat.le_refl _) _)) (fun _ h => h.elim) (fun b h => .inl h)) (fun b h => by have := (HK5.out b h).2; simp; omega) (by simp; omega) HC1.out j 33 7 (Bs.lit w6 _ _ _ num8 rfl (by decide))).mono ?_
        rintro e w7 ⟨rfl, hP7, hm7⟩
        rw [E2.out] at hP7 ⊢
        have HR := Lib.hid (show OtI w.heap.size K5 pb all w5 (j + 1) w7 from ⟨m2, hP7, HP2.out, HM6.out.trans ((Mod.of_below _ ((Below.refl _ _).alloc (Nat.le_refl _) _)).trans hm7)⟩)
        clear hP7 hm7 HP6 HM6 E2 kc
        go_wp2
        go_roundw
        case rel => exact ⟨j + 1, by omega, by go_num, HR.out⟩
        case measure => simp [intOf]; omega
      · obtain rfl : j = 3 := by omega
        -- the three reads
        have hx256 := x.toNat_lt
        have e3 : x.toNat % 3 ≠ (x.toNat + 1) % 3 := by omega
        obtain ⟨qa, hqa⟩ : ∃ qa, x.toNat % 3 = qa := ⟨_, rfl⟩
        obtain ⟨qb, hqb⟩ : ∃ qb, (x.toNat + 1) % 3 = qb := ⟨_, rfl⟩
        have hqa3 : qa < 3 := by omega
        have hqb3 : qb < 3 := by omega
        have hqai : (x.toNat : Int) % 3 = (qa : Int) := by omega
        have hqbi : ((x.toNat : Int) + 1) % 3 = (qb : Int) := by omega
        have hqai' : ((x.toNat : Int)).tmod 3 = (qa : Int) := by rw [Int.tmod_eq_emod_of_nonneg (by omega)]; omega
        have hqbi' : ((x.toNat : Int) + 1).tmod 3 = (qb : Int) := by rw [Int.tmod_eq_emod_of_nonneg (by omega)]; omega
        have hql : pm.list.length = 3 := by rw [hPH.len, othL_length]
        rw [← HALL.out] at hPH
        obtain ⟨r1, r2, r3⟩ := oth_reads d hPH qa qb hqa3 hqb3 (by omega)
        have hcalm := hPH.calm
        have hcalm2 := calm_set hcalm qa DM.lose (by simp [DM.lose])
        have hcalm3 := calm_set hcalm2 qb DM.lose (by simp [DM.lose])
        have hb1 := below_mod HBW5.out l5 hm (fun b h => h.1)
        have hNr : Ns wr K5 (.slice (some ⟨lb, lo, none⟩) 3 lc) (locsM 3 3) := Sv.kept HN5.out hm (fun b _ h h' => h'.2 h)
        have hFr := HF5.out.kept hm (fun b _ h h' => h'.2 h)
        have s0 : wr.cell? ⟨w2.heap.size, 0, none⟩ = some (.int .i64 33) := blk_cell hcr rfl
        have s1 : wr.cell? ⟨w2.heap.size, 1, none⟩ = some (.int .i64 0) := blk_cell hcr rfl
        have s2 : wr.cell? ⟨w2.heap.size, 2, none⟩ = some (.slice (some ⟨lb, lo, none⟩) 3 lc) := blk_cell hcr rfl
        have R1 := Lib.hid r1; have R2 := Lib.hid r2; have R3 := Lib.hid r3; have C1 := Lib.hid hcalm; have C2 := Lib.hid hcalm2; have C3 := Lib.hid hcalm3
        have HP := Lib.hid hP; have HB1 := Lib.hid hb1; have HNR := Lib.hid hNr; have HFR := Lib.hid hFr; have HCR := Lib.hid hcr; have HQL := Lib.hid hql
        clear hP hm hPH hcr r1 r2 r3 hcalm hcalm2 hcalm3 hb1 hNr hFr hqa hqb HF5 HC5 HN5 HI0 HBW5 HLC hql
        go_wp2_with (fail)
        refine (read_any 2 1 (by decide) (by decide) (by decide) (HP.out.toL HB1.out) C1.out 33 0 _ (locsM 3 3) HNR.out (by decide)).mono ?_
        rintro e wa ⟨v1, rfl, hv1, hba⟩
        rw [R1.out] at hv1 ⊢
        have hbas := hba.size
        obtain ⟨K6, hK6⟩ : ∃ K6 : Nat → Prop, (fun b => K5 b ∨ (wr.heap.size ≤ b ∧ b < wa.heap.size)) = K6 := ⟨_, rfl⟩
        have hPa := HP.out.more hba
        rw [hK6] at hPa
        have k6 : ∀ b, K6 b → b < wa.heap.size := fun b h => by
          rw [← hK6] at h
          rcases h with h | h
          · have := (HK5.out b h).2; omega
          · omega
        have k6a : ∀ b, K5 b → K6 b := fun b h => by rw [← hK6]; exact .inl h
        have k6b : ∀ b, b < wa.heap.size → Fresh wr b → K6 b := fun b h h' => by rw [← hK6]; exact .inr ⟨h', h⟩
        have hBa := HB1.out.trans (hba.mono HB1.out.size)
        obtain ⟨db, c30, c39⟩ := PF_lose hPa k6 hBa.size qa (by rw [HQL.out]; exact hqa3)
        have hca := (hba.block _ hlr).trans HCR.out
        have hva : Bs wa K6 v1 (fullM 2 d) := hv1.mono k6b
        have hNa : Ns wa K6 (.slice (some ⟨lb, lo, none⟩) 3 lc) (locsM 3 3) := Sv.mono (HNR.out.below hba) (fun b _ h => k6a b h)
        have hFa : Bs wa K6 (.slice (some ⟨b2, q2, none⟩) 16 c2) (fullM 2 d) := (HFR.out.below hba).mono (fun b _ h => k6a b h)
        have C39 := Lib.hid c39; have HBA := Lib.hid hBa; have HCA := Lib.hid hca; have HVA := Lib.hid hva; have HNA := Lib.hid hNa; have HFA := Lib.hid hFa; have K6L := Lib.hid k6
        obtain ⟨v1a, v1c, rfl⟩ := hva.shape
        have k26 := k6a _ k2
        have hla := blk_lt hca
        clear c39 hBa hca hva hNa hFa k6 k6a k6b hK6 hPa hv1 hba HP HB1 HNR HFR HCR C1 R1 s0 s1 s2
        go_wp2_with (go_at_call 30; refine c30.mono ?_; rintro e wy ⟨rfl, rfl⟩)
        refine C39.out.mono ?_
        rintro e wb ⟨rfl, hPb, hmb⟩
        clear c30 C39
        have hbb := below_mod HBA.out HBA.out.size hmb (fun b h => h.1)
        have hcb := blk_mod hmb HCA.out (fun h => h.2 k26)
        have hvb := HVA.out.kept hmb (fun b _ h h' => h'.2 h)
        have hNb : Ns wb K6 (.slice (some ⟨lb, lo, none⟩) 3 lc) (locsM 3 3) := Sv.kept HNA.out hmb (fun b _ h h' => h'.2 h)
        have hFb := HFA.out.kept hmb (fun b _ h h' => h'.2 h)
        have hsb := hmb.size
        have s0 : wb.cell? ⟨w2.heap.size, 0, none⟩ = some (.int .i64 33) := blk_cell hcb rfl
        have s1 : wb.cell? ⟨w2.heap.size, 1, none⟩ = some (.int .i64 0) := blk_cell hcb rfl
        have s2 : wb.cell? ⟨w2.heap.size, 2, none⟩ = some (.slice (some ⟨lb, lo, none⟩) 3 lc) := blk_cell hcb rfl
        have hlb := blk_lt hcb
        have HPB := Lib.hid hPb; have HBB := Lib.hid hbb; have HCB := Lib.hid hcb; have HVB := Lib.hid hvb; have HNB := Lib.hid hNb; have HFB := Lib.hid hFb
        clear hPb hmb hbb hcb hvb hNb hFb HBA HCA HVA HNA HFA
        go_wp2_with (fail)
        refine (read_any 2 1 (by decide) (by decide) (by decide) (HPB.out.toL HBB.out) C2.out 33 0 _ (locsM 3 3) HNB.out (by decide)).mono ?_
        rintro e wc ⟨v2, rfl, hv2, hbc⟩
        rw [R2.out] at hv2 ⊢
        have hbcs := hbc.size
        obtain ⟨K7, hK7⟩ : ∃ K7 : Nat → Prop, (fun b => K6 b ∨ (wb.heap.size ≤ b ∧ b < wc.heap.size)) = K7 := ⟨_, rfl⟩
        have hPc := HPB.out.more hbc
        rw [hK7] at hPc
        have k7 : ∀ b, K7 b → b < wc.heap.size := fun b h => by
          rw [← hK7] at h
          rcases h with h | h
          · have := K6L.out b h; omega
          · omega
        have k7a : ∀ b, K6 b → K7 b := fun b h => by rw [← hK7]; exact .inl h
        have k7b : ∀ b, b < wc.heap.size → Fresh wb b → K7 b := fun b h h' => by rw [← hK7]; exact .inr ⟨h', h⟩
        have hBc := HBB.out.trans (hbc.mono HBB.out.size)
        obtain ⟨db2, c30, c39⟩ := PF_lose hPc k7 hBc.size qb (by rw [setD_len, HQL.out]; exact hqb3)
        have hcc := (hbc.block _ hlb).trans HCB.out
        have hvc : Bs wc K7 (.slice v1a (fullM 2 d).length v1c) (fullM 2 d) := (HVB.out.below hbc).mono (fun b _ h => k7a b h)
        have hvc2 : Bs wc K7 v2 (fullM 2 d) := hv2.mono k7b
        have hNc : Ns wc K7 (.slice (some ⟨lb, lo, none⟩) 3 lc) (locsM 3 3) := Sv.mono (HNB.out.below hbc) (fun b _ h => k7a b h)
        have hFc : Bs wc K7 (.slice (some ⟨b2, q2, none⟩) 16 c2) (fullM 2 d) := (HFB.out.below hbc).mono (fun b _ h => k7a b h)
        have C39 := Lib.hid c39; have HBC := Lib.hid hBc; have HCC := Lib.hid hcc; have HVC := Lib.hid hvc; have HVC2 := Lib.hid hvc2; have HNC := Lib.hid hNc; have HFC := Lib.hid hFc
        obtain ⟨v2a, v2c, rfl⟩ := hvc2.shape
        have k27 := k7a _ k26
        clear c39 hBc hcc hvc hvc2 hNc hFc k7 k7a k7b hK7 hPc hv2 hbc HPB HBB HNB HFB HCB HVB C2 R2 s0 s1 s2
        go_wp2_with (go_at_call 30; refine c30.mono ?_; rintro e wy ⟨rfl, rfl⟩)
        refine C39.out.mono ?_
        rintro e wd ⟨rfl, hPd, hmd⟩
        clear c30 C39
        have hbd := below_mod HBC.out HBC.out.size hmd (fun b h => h.1)
        have hcd := blk_mod hmd HCC.out (fun h => h.2 k27)
        have hvd := HVC.out.kept hmd (fun b _ h h' => h'.2 h)
        have hvd2 := HVC2.out.kept hmd (fun b _ h h' => h'.2 h)
        have hNd : Ns wd K7 (.slice (some ⟨lb, lo, none⟩) 3 lc) (locsM 3 3) := Sv.kept HNC.out hmd (fun b _ h h' => h'.2 h)
        have hFd := HFC.out.kept hmd (fun b _ h h' => h'.2 h)
        have s0 : wd.cell? ⟨w2.heap.size, 0, none⟩ = some (.int .i64 33) := blk_cell hcd rfl
        have s1 : wd.cell? ⟨w2.heap.size, 1, none⟩ = some (.int .i64 0) := blk_cell hcd rfl
        have s2 : wd.cell? ⟨w2.heap.size, 2, none⟩ = some (.slice (some ⟨lb, lo, none⟩) 3 lc) := blk_cell hcd rfl
        have HPD := Lib.hid hPd; have HBD := Lib.hid hbd; have HVD := Lib.hid hvd; have HVD2 := Lib.hid hvd2; have HND := Lib.hid hNd; have HFD := Lib.hid hFd
        clear hPd hmd hbd hcd hvd hvd2 hNd hFd HBC HCC HVC HVC2 HNC HFC
        go_wp2_with (fail)
        refine (read_any 2 1 (by decide) (by decide) (by decide) (HPD.out.toL HBD.out) C3.out 33 0 _ (locsM 3 3) HND.out (by decide)).mono ?_
        rintro e we ⟨v3, rfl, hv3, hbe⟩
        rw [R3.out] at hv3 ⊢
        obtain ⟨v3a, v3c, rfl⟩ := hv3.shape
        have HBE := Lib.hid (HBD.out.trans (hbe.mono HBD.out.size)); have HVE := Lib.hid (HVD.out.below hbe); have HVE2 := Lib.hid (HVD2.out.below hbe); have HFE := Lib.hid (HFD.out.below hbe)
        clear hv3 hbe HPD HBD HVD HVD2 HND HFD C3 R3 s0 s1 s2
        go_wp2_with (fail)
        refine (answers15 _).mono ?_
        rintro e wf ⟨rfl, hbf⟩
        have HBF := Lib.hid (HBE.out.trans (hbf.mono HBE.out.size)); have HVF := Lib.hid (HVE.out.below hbf); have HVF2 := Lib.hid (HVE2.out.below hbf); have HFF := Lib.hid (HFE.out.below hbf)
        clear hbf HBE HVE HVE2 HFE
        have hl16 : (fullM 2 d).length ≤ 1000000 := by rw [fullM_length 2 (by decide) d]; decide
        go_wp2_with (fail)
        refine (same_same HVF.out HFF.out hl16).mono ?_
        rintro e wg ⟨rfl, hbg⟩
        have HBG := Lib.hid (HBF.out.trans (hbg.mono HBF.out.size)); have HVG := Lib.hid (HVF2.out.below hbg); have HFG := Lib.hid (HFF.out.below hbg)
        clear hbg HBF HVF HVF2 HFF
        go_wp2_with (fail)
        refine (same_same HVG.out HFG.out hl16).mono ?_
        rintro e wh ⟨rfl, hbh⟩
        go_wp2
        go_ret
        exact ⟨rfl, HBG.out.trans (hbh.mono HBG.out.size)⟩
end Go.Proofs.Fl

namespace Go.Proofs.Fl
open Go.RowKit

theorem laidM_eight (k m : Nat) (hk1 : 1 ≤ k) (hk : k ≤ 4) (d : Bytes) (lack spoil : UInt8) (i : Nat) (hi : i < k + m) : ((laidM k m d lack spoil).2.getD i []).length = 0 ∨ ((laidM k m d lack spoil).2.getD i []).length = 8 := by
  rw [laidM_row _ _ _ _ _ _ hi]
  unfold haveB
  split
  · exact .inl rfl
  · exact .inr (renc_row k m _ hk1 (fullM_length k hk d) i hi)
theorem decM_small (sh : List Bytes) (k m : Nat) (hk1 : 1 ≤ k) (hk : k ≤ 4) (h8 : ∀ i, i < k + m → (sh.getD i []).length = 0 ∨ (sh.getD i []).length = 8) : (decM k m sh).1.length ≤ 1000 := by
  rcases decM_err sh k m with h | h
  · rw [decM_len sh k m hk1 h8 h]; omega
  · have : (decM k m sh).1 = [] := by
      unfold decM at h ⊢
      split
      · rfl
      · rename_i hn; rw [if_neg hn] at h; cases h
    rw [this]; simp
theorem rebM_small (sh : List Bytes) (k m : Nat) (hk1 : 1 ≤ k) (h8 : ∀ i, i < k + m → (sh.getD i []).length = 0 ∨ (sh.getD i []).length = 8) (a : Int) : (rebM k m sh a).1.length ≤ 1000 := by
  unfold rebM
  split
  · simp
  · rename_i h
    have h0 : (decM k m sh).2 = 0 := by rcases decM_err sh k m with e | e <;> omega
    split
    · simp
    · show ((rencM k m (decM k m sh).1).getD a.toNat []).length ≤ 1000
      rw [renc_row k m _ hk1 (decM_len sh k m hk1 h8 h0) _ (by omega)]; decide

set_option maxHeartbeats 4000000 in
set_option maxRecDepth 100000 in
theorem read_law {dv : Value} {d : Bytes} {w : World} (hD : DatB w (fun b => b < w.heap.size) dv d) (hd0 : d.length ≤ maxLen) (xk xm lack spoil xa : UInt8) :
    Calls Try.prog 10 #[.int .u8 xk.toNat, .int .u8 xm.toNat, dv, .int .u8 lack.toNat, .int .u8 spoil.toNat, .int .u8 xa.toNat] w fun e w' => e = .returned (.bool true) ∧ Below w.heap.size w w' := by
  have HD := Lib.hid hD
  obtain ⟨dao, dc, rfl⟩ := hD.shape
  clear hD
  have hd0i : (d.length : Int) ≤ 9223372036854775807 := by unfold maxLen at hd0; omega
  by_cases hbig : 100 < d.length
  · have hbi : (100 : Int) < (d.length : Int) := by omega
    clear hd0
    go_enter Try.func10, Try.ntmps10
    go_wp2_with (go_at_call 44; refine (answers15 _).mono ?_; rintro e w1 ⟨rfl, hb1⟩)
    go_ret
    exact ⟨rfl, hb1⟩
  · have hbi : ¬ (100 : Int) < (d.length : Int) := by omega
    clear hd0
    have hx1 := xk.toNat_lt; have hx2 := xm.toNat_lt; have hx3 := xa.toNat_lt
    obtain ⟨q, hq⟩ : ∃ q, xk.toNat % 4 = q := ⟨_, rfl⟩
    obtain ⟨k, hk⟩ : ∃ k, q + 1 = k := ⟨_, rfl⟩
    obtain ⟨m, hm⟩ : ∃ m, xm.toNat % 4 = m := ⟨_, rfl⟩
    obtain ⟨j, hj⟩ : ∃ j, xa.toNat % (k + m) = j := ⟨_, rfl⟩
    have hjl : j < k + m := by rw [← hj]; exact Nat.mod_lt _ (by omega)
    have e1 : (xk.toNat : Int) % 4 = (q : Int) := by omega
    have e2 : (q : Int) + 1 = (k : Int) := by omega
    have e3 : (xm.toNat : Int) % 4 = (m : Int) := by omega
    have e4' : (xa.toNat : Int) % ((k : Int) + (m : Int)) = (j : Int) := by rw [← hj]; simp
    have e4 : (xa.toNat : Int).tmod ((k : Int) + (m : Int)) = (j : Int) := by rw [Int.tmod_eq_emod_of_nonneg (by omega), e4']
    have b1 : 1 ≤ k := by omega
    have b2 : k ≤ 4 := by omega
    have b3 : m ≤ 3 := by omega
    clear hq hk hm hj
    go_enter Try.func10, Try.ntmps10
    go_wp2_with (fail)
    refine (laid_any k m b1 b2 b3 HD.out (by omega) lack spoil).mono ?_
    rintro e w2 ⟨pb, lv, tv, K, rfl, hK, hP, hN, hT, hb⟩
    obtain ⟨lao, lc, rfl, _⟩ := hN.open_
    have hPH := laidM_PH k m b1 b2 b3 d lack spoil
    have hga := laidM_read k m b1 b2 b3 d lack spoil hPH
    have h8 := laidM_eight k m b1 b2 d lack spoil
    have hrl := laidM_rows k m d lack spoil
    have hcm := hPH.calm
    have hrd : readM k m (laidM k m d lack spoil).1 33 (locsM (k + m) (k + m)) = decM k m (laidM k m d lack spoil).2 := by unfold readM; rw [locsM_length, hga]
    have hon : oneM k m (laidM k m d lack spoil).1 33 (locsM (k + m) (k + m)) j = rebM k m (laidM k m d lack spoil).2 j := by unfold oneM; rw [locsM_length, hga]
    generalize (laidM k m d lack spoil).1 = pm at *
    generalize (laidM k m d lack spoil).2 = sh at *
    have sm1 := decM_small sh k m b1 b2 h8
    have sm2 := rebM_small sh k m b1 h8 j
    have hPL := hP.toL hb
    rw [locsM_length] at *
    obtain ⟨W, hW⟩ : ∃ W, w2.alloc (.cells #[.int .i64 33, .int .i64 0, .slice lao (k + m) lc] 67) = W := ⟨_, rfl⟩
    have hbW : Below w2.heap.size w2 W := by rw [← hW]; exact (Below.refl _ _).alloc (Nat.le_refl _) _
    have hcW : W.heap[w2.heap.size]? = some (.cells #[.int .i64 33, .int .i64 0, .slice lao (k + m) lc] 67 (0, 0)) := by rw [← hW]; exact heap_alloc_new _ _
    have hbw := hb.trans (hbW.mono hb.size)
    have s0 : W.cell? ⟨w2.heap.size, 0, none⟩ = some (.int .i64 33) := blk_cell hcW rfl
    have s1 : W.cell? ⟨w2.heap.size, 1, none⟩ = some (.int .i64 0) := blk_cell hcW rfl
    have s2 : W.cell? ⟨w2.heap.size, 2, none⟩ = some (.slice lao (k + m) lc) := blk_cell hcW rfl
    have hlW := blk_lt hcW
    have HPL := Lib.hid (hPL.ext hbW); have HN := Lib.hid (hN.below hbW); have HT := Lib.hid (hT.below hbW); have HB := Lib.hid hbw; have HCW := Lib.hid hcW
    have HC := Lib.hid hcm; have H8 := Lib.hid h8; have HRD := Lib.hid hrd; have HON := Lib.hid hon; have HRL := Lib.hid hrl
    obtain ⟨tao, tc, rfl⟩ := hT.shape
    rw [hrl] at HT ⊢
    clear hK hP hN hT hb hPH hga h8 hrl hcm hrd hon hPL hbW hcW hbw HD
    unfold stripeV
    go_wp2_with (fail)
    refine (read_any k m b1 b2 b3 HPL.out HC.out 33 0 _ (locsM (k + m) (k + m)) HN.out (locsM_length _ _)).mono ?_
    rintro e wa ⟨v1, rfl, hv1, hba⟩
    rw [HRD.out] at hv1 ⊢
    have hba' := HB.out.trans (hba.mono HB.out.size)
    have hdec := decode_any k m b1 b2 b3 (HT.out.below hba) HRL.out H8.out
    have hca := (hba.block _ hlW).trans HCW.out
    have hPa := HPL.out.ext hba
    have hNa := HN.out.below hba
    have hTa := HT.out.below hba
    obtain ⟨dd, hdd⟩ : ∃ dd, decM k m sh = dd := ⟨_, rfl⟩
    rw [hdd] at hv1 hdec sm1 ⊢
    have HDEC := Lib.hid hdec; have HBA := Lib.hid hba'; have HVA := Lib.hid hv1; have HCA := Lib.hid hca; have HPA := Lib.hid hPa; have HNA := Lib.hid hNa; have HTA := Lib.hid hTa
    obtain ⟨v1a, v1c, rfl⟩ := hv1.shape
    have hla := blk_lt hca
    clear hdec hba hba' hv1 hca hPa hNa hTa hdd HPL HN HT HB HCW s0 s1 s2 hW HRD hlW
    go_wp2_with (fail)
    refine HDEC.out.mono ?_
    rintro e wb ⟨v2, rfl, hv2, hbb⟩
    have hbb' := HBA.out.trans (hbb.mono HBA.out.size)
    have hcb := (hbb.block _ hla).trans HCA.out
    have s0 : wb.cell? ⟨w2.heap.size, 0, none⟩ = some (.int .i64 33) := blk_cell hcb rfl
    have s1 : wb.cell? ⟨w2.heap.size, 1, none⟩ = some (.int .i64 0) := blk_cell hcb rfl
    have s2 : wb.cell? ⟨w2.heap.size, 2, none⟩ = some (.slice lao (k + m) lc) := blk_cell hcb rfl
    have HBB := Lib.hid hbb'; have HVB1 := Lib.hid (HVA.out.below hbb); have HVB2 := Lib.hid hv2; have HPB := Lib.hid (HPA.out.ext hbb); have HNB := Lib.hid (HNA.out.below hbb); have HTB := Lib.hid (HTA.out.below hbb)
    obtain ⟨v2a, v2c, rfl⟩ := hv2.shape
    clear hbb hbb' hcb hv2 HDEC HVA HBA HPA HNA HTA HCA
    go_wp2_with (fail)
    refine (one_any k m b1 b2 b3 HPB.out HC.out 33 0 _ (locsM (k + m) (k + m)) HNB.out (locsM_length _ _) j).mono ?_
    rintro e wc ⟨v3, rfl, hv3, hbc⟩
    rw [HON.out] at hv3 ⊢
    have hreb := rebuild_any k m b1 b2 b3 (HTB.out.below hbc) HRL.out H8.out j
    obtain ⟨rr, hrr⟩ : ∃ rr, rebM k m sh j = rr := ⟨_, rfl⟩
    rw [hrr] at hv3 hreb sm2 ⊢
    have HREB := Lib.hid hreb; have HBC := Lib.hid (HBB.out.trans (hbc.mono HBB.out.size)); have HVC1 := Lib.hid (HVB1.out.below hbc); have HVC2 := Lib.hid (HVB2.out.below hbc); have HVC3 := Lib.hid hv3
    obtain ⟨v3a, v3c, rfl⟩ := hv3.shape
    clear hreb hbc hv3 hrr HVB1 HVB2 HBB HPB HNB HTB s0 s1 s2 HON
    go_wp2_with (fail)
    refine HREB.out.mono ?_
    rintro e wd ⟨v4, rfl, hv4, hbd⟩
    have HBD := Lib.hid (HBC.out.trans (hbd.mono HBC.out.size)); have HVD1 := Lib.hid (HVC1.out.below hbd); have HVD2 := Lib.hid (HVC2.out.below hbd); have HVD3 := Lib.hid (HVC3.out.below hbd); have HVD4 := Lib.hid hv4
    obtain ⟨v4a, v4c, rfl⟩ := hv4.shape
    clear hbd hv4 HREB HVC1 HVC2 HVC3 HBC
    go_wp2_with (fail)
    refine (answers15 _).mono ?_
    rintro e we ⟨rfl, hbe⟩
    have HBE := Lib.hid (HBD.out.trans (hbe.mono HBD.out.size)); have HVE1 := Lib.hid (HVD1.out.below hbe); have HVE2 := Lib.hid (HVD2.out.below hbe); have HVE3 := Lib.hid (HVD3.out.below hbe); have HVE4 := Lib.hid (HVD4.out.below hbe)
    have t1 : dd.1.length ≤ 1000000 := by omega
    have t2 : rr.1.length ≤ 1000000 := by omega
    clear hbe HVD1 HVD2 HVD3 HVD4 HBD
    go_wp2_with (fail)
    refine (same_same HVE1.out HVE2.out t1).mono ?_
    rintro e wf ⟨rfl, hbf⟩
    have HBF := Lib.hid (HBE.out.trans (hbf.mono HBE.out.size)); have HVF3 := Lib.hid (HVE3.out.below hbf); have HVF4 := Lib.hid (HVE4.out.below hbf)
    clear hbf HVE1 HVE2 HVE3 HVE4 HBE
    go_wp2_with (fail)
    refine (same_same HVF3.out HVF4.out t2).mono ?_
    rintro e wg ⟨rfl, hbg⟩
    go_wp2
    go_ret
    exact ⟨rfl, HBF.out.trans (hbg.mono HBF.out.size)⟩
end Go.Proofs.Fl

namespace Go.Proofs.Fl
open Go.RowKit

/-! ### ShardChanged -/
def lackK (x : UInt8) : Nat → UInt8 × Nat
  | 0 => (0, 0)
  | i + 1 => if bitB x i ∧ (lackK x i).2 < 2 then ((lackK x i).1 ||| (1 <<< UInt8.ofNat i), (lackK x i).2 + 1) else lackK x i
theorem lackK_stop (x : UInt8) (i : Nat) (h : ¬ (lackK x i).2 < 2) : ∀ j, i ≤ j → lackK x j = lackK x i := by
  intro j hj
  obtain ⟨d, rfl⟩ : ∃ d, j = i + d := ⟨j - i, by omega⟩
  induction d with
  | zero => rfl
  | succ d ih =>
    have := ih (by omega)
    show (if bitB x (i + d) ∧ (lackK x (i + d)).2 < 2 then _ else lackK x (i + d)) = _
    rw [this, if_neg (fun h' => h h'.2)]
theorem lackK_le (x : UInt8) (i : Nat) : (lackK x i).2 ≤ 2 := by
  induction i with
  | zero => simp [lackK]
  | succ i ih =>
    unfold lackK
    split
    · show _ + 1 ≤ 2; omega
    · exact ih
theorem lack_there (x : UInt8) : 3 ≤ thereK (lackK x 5).1 0 5 := by
  have := u8_all (fun x => decide (3 ≤ thereK (lackK x 5).1 0 5)) (by decide +kernel) x
  exact of_decide_eq_true this
theorem changed_one (d : Bytes) (x : UInt8) (j : Nat) (hj : j < 5) {pm : PM} (h : PH pm (laidL 5 (rencM 3 2 (fullM 3 d)) (lackK x 5).1 0 5)) :
    oneM 3 2 pm 33 (locsM 5 5) j = ((rencM 3 2 (fullM 3 d)).getD j [], 0) := by
  have hga := laidM_read 3 2 (by decide) (by decide) (by decide) d (lackK x 5).1 0 h
  have hdec := laidM_dec 3 2 (by decide) (by decide) (by decide) d (lackK x 5).1 0 (lack_there x)
  unfold oneM
  rw [show (locsM 5 5).length = 5 from locsM_length 5 5, show gatherK pm 33 (locsM 5 5) 5 = _ from hga]
  unfold rebM
  rw [hdec, if_neg (by simp), if_neg (by omega)]
  rfl
theorem all_row (d : Bytes) (j : Nat) (hj : j < 5) : (laidM 3 2 d 0 0).2.getD j [] = (rencM 3 2 (fullM 3 d)).getD j [] := by
  rw [laidM_row 3 2 d 0 0 j hj]
  unfold haveB
  rw [bit0]; rfl

theorem or_bit (a : UInt8) (j : Nat) (hj : j < 5) : bits BinOp.or IntKind.u8 (a.toNat : Int) ((2 : Int) ^ j % 256) = ((a ||| (1 <<< UInt8.ofNat j)).toNat : Int) := by
  have h : ∀ j, j ∈ List.range 5 → bits BinOp.or IntKind.u8 (a.toNat : Int) ((2 : Int) ^ j % 256) = ((a ||| (1 <<< UInt8.ofNat j)).toNat : Int) := by
    have := u8_all (fun a => (List.range 5).all fun j => decide (bits BinOp.or IntKind.u8 (a.toNat : Int) ((2 : Int) ^ j % 256) = ((a ||| (1 <<< UInt8.ofNat j)).toNat : Int))) (by decide +kernel) a
    intro j hj
    exact of_decide_eq_true (List.all_eq_true.1 this j hj)
  exact h j (List.mem_range.2 hj)
set_option maxHeartbeats 4000000 in
set_option maxRecDepth 100000 in
theorem changed_law {dv : Value} {d : Bytes} {w : World} (hD : DatB w (fun b => b < w.heap.size) dv d) (hd0 : d.length ≤ maxLen) (x : UInt8) :
    Calls Try.prog 12 #[dv, .int .u8 x.toNat] w fun e w' => e = .returned (.bool true) ∧ Below w.heap.size w w' := by
  have HD := Lib.hid hD
  obtain ⟨dao, dc, rfl⟩ := hD.shape
  clear hD
  have hd0i : (d.length : Int) ≤ 9223372036854775807 := by unfold maxLen at hd0; omega
  by_cases hbig : 100 < d.length
  · have hbi : (100 : Int) < (d.length : Int) := by omega
    clear hd0
    go_enter Try.func12, Try.ntmps12
    go_wp2_with (go_at_call 44; refine (answers15 _).mono ?_; rintro e w1 ⟨rfl, hb1⟩)
    go_ret
    exact ⟨rfl, hb1⟩
  · have hbi : ¬ (100 : Int) < (d.length : Int) := by omega
    clear hd0
    go_enter Try.func12, Try.ntmps12
    go_wp2
    go_loop [5, 6, 7] (fun a b i => ∃ j : Nat, j ≤ 5 ∧ i = .int .i64 j ∧ a = .int .u8 (lackK x j).1.toNat ∧ b = .int .i64 (lackK x j).2) (fun _ _ i => 5 - (intOf i).toNat)
    case atStart => exact ⟨0, by omega, rfl, rfl, rfl⟩
    case round =>
      obtain ⟨j, hj, rfl, rfl, rfl⟩ := hrel
      have hle := lackK_le x j
      by_cases hlt : j < 5 ∧ (lackK x j).2 < 2
      · obtain ⟨hl1, hl2⟩ := hlt
        have hs : lackK x (j + 1) = if bitB x j ∧ (lackK x j).2 < 2 then ((lackK x j).1 ||| (1 <<< UInt8.ofNat j), (lackK x j).2 + 1) else lackK x j := rfl
        have hb1 := bit_int x j
        generalize lackK x j = t at *
        obtain ⟨tl, tn⟩ := t
        simp only at hs hle hl2
        cases hbx : bitB x j with
        | true =>
          rw [hbx, if_pos rfl] at hb1
          rw [hbx, if_pos ⟨rfl, hl2⟩] at hs
          have HS := Lib.hid hs
          clear hs hbx
          go_wp2
          go_round
          case rel => exact ⟨j + 1, by omega, by go_num, by rw [HS.out, or_bit _ _ hl1], by rw [HS.out]; go_num⟩
          case measure => simp [intOf]; omega
        | false =>
          rw [hbx, if_neg (by decide)] at hb1
          rw [hbx, if_neg (by simp)] at hs
          have HS := Lib.hid hs
          clear hs hbx
          go_wp2
          go_round
          case rel => exact ⟨j + 1, by omega, by go_num, by rw [HS.out], by rw [HS.out]⟩
          case measure => simp [intOf]; omega
      · have hfin : lackK x 5 = lackK x j := by
          by_cases h5 : j < 5
          · exact lackK_stop x j (fun h => hlt ⟨h5, h⟩) 5 hj
          · have : j = 5 := by omega
            rw [this]
        have hcase : (j < 5 ∧ ¬ (lackK x j).2 < 2) ∨ j = 5 := by
          by_cases h5 : j < 5
          · exact .inl ⟨h5, fun h => hlt ⟨h5, h⟩⟩
          · exact .inr (by omega)
        have HPART := fun pm (h : PH pm _) j hj => changed_one d x j hj (pm := pm) h
        have HCO := Lib.hid HPART
        clear HPART
        rw [hfin] at HCO
        generalize lackK x j = t at *
        obtain ⟨tl, tn⟩ := t
        simp only at hle HCO hcase
        clear hlt hfin
        rcases hcase with ⟨g1, g2⟩ | rfl
        all_goals
          go_wp2_with (fail)
          refine (laid_any 3 2 (by decide) (by decide) (by decide) HD.out (by omega) tl 0).mono ?_
          rintro e w2 ⟨pb, lv, tv, K, rfl, hK, hP, hN, hT, hb⟩
          obtain ⟨lao, lc, rfl, _⟩ := hN.open_
          obtain ⟨tao, tc, rfl⟩ := hT.shape
          have hPH := laidM_PH 3 2 (by decide) (by decide) (by decide) d tl 0
          rw [show (3 + 2 : Nat) = 5 from rfl, locsM_length] at *
          have hcm := hPH.calm
          have hone := fun j hj => HCO.out _ hPH j hj
          have hPL := hP.toL hb
          have hrl := laidM_rows 3 2 d tl 0
          rw [hrl]
          generalize (laidM 3 2 d tl 0).1 = pm at *
          obtain ⟨W, hW⟩ : ∃ W, w2.alloc (.cells #[.int .i64 33, .int .i64 0, .slice lao 5 lc] 67) = W := ⟨_, rfl⟩
          have hbW : Below w2.heap.size w2 W := by rw [← hW]; exact (Below.refl _ _).alloc (Nat.le_refl _) _
          have hcW : W.heap[w2.heap.size]? = some (.cells #[.int .i64 33, .int .i64 0, .slice lao 5 lc] 67 (0, 0)) := by rw [← hW]; exact heap_alloc_new _ _
          have hbw := hb.trans (hbW.mono hb.size)
          have HPL := Lib.hid (hPL.ext hbW); have HN := Lib.hid (hN.below hbW); have HB := Lib.hid hbw; have HCW := Lib.hid hcW; have HC := Lib.hid hcm; have HON := Lib.hid hone
          have HD2 := Lib.hid ((HD.out.below hbw).mono (T := fun b => b < W.heap.size) (fun b hb _ => hb))
          clear hK hP hN hT hb hPH hcm hone hPL hbW hcW hbw hrl HD HCO
          unfold stripeV
          go_wp2_with (fail)
          refine (laid_any 3 2 (by decide) (by decide) (by decide) HD2.out (by omega) 0 0).mono ?_
          rintro e w3 ⟨pb2, lv2, tv2, K2, rfl, _, _, hN2, hT2, hb3⟩
          obtain ⟨lao2, lc2, rfl, _⟩ := hN2.open_
          have hrl2 := laidM_rows 3 2 d 0 0
          have hrow := fun j hj => all_row d j hj
          have h8 := fun j (hj : j < 5) => renc_row 3 2 (fullM 3 d) (by decide) (fullM_length 3 (by decide) d) j hj
          generalize (laidM 3 2 d 0 0).2 = all at *
          rw [show (3 + 2 : Nat) = 5 from rfl] at hrl2
          obtain ⟨tb, to, tc2, rfl, _, htb, _, hcell⟩ := hT2.cellAt (by omega)
          rw [hrl2] at hcell ⊢
          have hbW2 : Below w3.heap.size w3 (w3.alloc (.cells #[.int .i64 33, .int .i64 0, .slice lao2 (locsM 5 5).length lc2] 67)) := (Below.refl _ _).alloc (Nat.le_refl _) _
          have hbz := hb3.trans (hbW2.mono hb3.size)
          have hbzw := HB.out.trans (hbz.mono HB.out.size)
          have hcz := (hbz.block _ (blk_lt HCW.out)).trans HCW.out
          obtain ⟨Z, hZ⟩ : ∃ Z, w3.alloc (.cells #[.int .i64 33, .int .i64 0, .slice lao2 (locsM 5 5).length lc2] 67) = Z := ⟨_, rfl⟩
          have hbZ : Below w3.heap.size w3 Z := by rw [← hZ]; exact hbW2
          have HPZ := Lib.hid (HPL.out.ext (hZ ▸ hbz)); have HNZ := Lib.hid (HN.out.below (hZ ▸ hbz)); have HBZ := Lib.hid (hZ ▸ hbzw); have HCZ := Lib.hid (hZ ▸ hcz)
          have HCELL := Lib.hid (fun j (hj : j < 5) => by
            obtain ⟨ao, kc, c1, c2⟩ := hcell j hj
            exact (⟨ao, kc, (hbZ.cell (p := ⟨tb, to + j, none⟩) htb).trans c1, c2.below hbZ⟩ : ∃ ao kc, Z.cell? ⟨tb, to + j, none⟩ = some (.slice ao (all.getD j []).length kc) ∧ Bs Z K2 (.slice ao (all.getD j []).length kc) (all.getD j [])))
          have htZ := Nat.lt_of_lt_of_le htb hbZ.size
          have HROW := Lib.hid hrow; have H8 := Lib.hid h8
          clear hN2 hT2 hb3 hcell hbW2 hbz hbzw hcz hbZ hrow h8 hrl2 HD2 HPL HN HB HCW
          rw [show (locsM 5 5).length = 5 from locsM_length 5 5] at *
          unfold stripeV
          go_wp2_with (fail)
          go_loopw [14] (fun i wr => ∃ j : Nat, j ≤ 5 ∧ i = .int .i64 j ∧ Below Z.heap.size Z wr) (fun i _ => 5 - (intOf i).toNat)
          case atStart => exact ⟨0, by omega, rfl, Below.refl _ _⟩
          case round =>
            obtain ⟨i, hi, rfl, hbr⟩ := hrel
            have hbw := HBZ.out.trans (hbr.mono HBZ.out.size)
            by_cases hlt : i < 5
            · have hone := HON.out i hlt
              have hcr := (hbr.block _ (blk_lt HCZ.out)).trans HCZ.out
              have s0 : wr.cell? ⟨w2.heap.size, 0, none⟩ = some (.int .i64 33) := blk_cell hcr rfl
              have s1 : wr.cell? ⟨w2.heap.size, 1, none⟩ = some (.int .i64 0) := blk_cell hcr rfl
              have s2 : wr.cell? ⟨w2.heap.size, 2, none⟩ = some (.slice lao 5 lc) := blk_cell hcr rfl
              have hc := one_any 3 2 (by decide) (by decide) (by decide) (HPZ.out.ext hbr) HC.out 33 0 _ (locsM 5 5) (HNZ.out.below hbr) (by decide) i
              rw [hone] at hc
              obtain ⟨ao, kc, c1, c2⟩ := HCELL.out i hlt
              rw [HROW.out i hlt] at c1 c2
              have x1 := (hbr.cell (p := ⟨tb, to + i, none⟩) htZ).trans c1
              have hx := c2.below hbr
              have h8i := H8.out i hlt
              generalize (rencM 3 2 (fullM 3 d)).getD i [] = row at *
              rw [h8i] at x1 hx
              have HONE := Lib.hid hc; have HX := Lib.hid hx; have HBW := Lib.hid hbw; have HR8 := Lib.hid h8i
              clear hc hx hbw hcr hone c1 c2 h8i
              go_wp2_with (fail)
              refine HONE.out.mono ?_
              rintro e w5 ⟨v5, rfl, hv5, hb5⟩
              obtain ⟨v5a, v5c, rfl⟩ := hv5.shape
              have x5 := (hb5.cell (p := ⟨tb, to + i, none⟩) (Nat.lt_of_lt_of_le htZ hbr.size)).trans x1
              have HX5 := Lib.hid (HX.out.below hb5); have HV5 := Lib.hid hv5; have HB5 := Lib.hid (hbr.trans (hb5.mono hbr.size))
              have t1 : row.length ≤ 1000000 := by rw [HR8.out]; decide
              clear hv5 hb5 HONE s0 s1 s2 x1
              go_wp2_with (fail)
              refine (same_same HV5.out HX5.out t1).mono ?_
              rintro e w6 ⟨rfl, hb6⟩
              have HB6 := Lib.hid (HB5.out.trans (hb6.mono HB5.out.size))
              clear hb6 HB5 HV5 HX5 x5
              go_wp2
              go_roundw
              case rel => exact ⟨i + 1, by omega, by go_num, HB6.out⟩
              case measure => simp [intOf]; omega
            · obtain rfl : i = 5 := by omega
              have HBW := Lib.hid hbw
              clear hbw
              go_wp2_with (go_at_call 44; refine (answers15 _).mono ?_; rintro e w7 ⟨rfl, hb7⟩)
              go_ret
              exact ⟨rfl, HBW.out.trans (hb7.mono HBW.out.size)⟩
end Go.Proofs.Fl

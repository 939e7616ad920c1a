import Derived.Test.YtficmalfoeaibaaXS4
import Derived.Test.YtficmalfoeaibaaXS6
namespace Go.Proofs.Fl
open Go.RowKit

set_option maxHeartbeats 2000000 in
set_option maxRecDepth 100000 in
theorem laid18_any {dv : Value} {d : Bytes} {w : World} (k m : Nat) (hk1 : 1 ≤ k) (hk : k ≤ 4) (hm : m ≤ 3) (hD : DatB w (fun b => b < w.heap.size) dv d) (hd : d.length ≤ 1000) (lack spoil : UInt8) :
    Calls Try.prog 52 #[.int .i64 k, .int .i64 m, dv, .int .u8 lack.toNat, .int .u8 spoil.toNat] w (LaidP w (k + m) (laidM k m d lack spoil).1 (laidM k m d lack spoil).2) := by
  have HD := Lib.hid hD
  obtain ⟨dao, dc, rfl⟩ := hD.shape
  clear hD
  go_enter Try.func52, Try.ntmps52
  go_wp2_with (fail)
  have hb0 : Below w.heap.size w (w.alloc (.cells #[.int .i64 0, .int .i64 0, .slice none 0 0] 67)) := (Below.refl _ _).alloc (Nat.le_refl _) _
  refine (PF_new (w.alloc (.cells #[.int .i64 0, .int .i64 0, .slice none 0 0] 67)) w.heap.size hb0.size (fun b => b = w.heap.size) (fun b h => by subst h; simp)).mono ?_
  rintro e w1 ⟨pb, rfl, hP, hb1⟩
  have hs1 := hb1.size
  rw [World.size_alloc] at hs1
  have hrb : w1.heap[w.heap.size]? = some (.cells #[.int .i64 0, .int .i64 0, .slice none 0 0] 67 (0, 0)) := (hb1.block w.heap.size (by simp)).trans (heap_alloc_new w _)
  have hbw1 : Below w.heap.size w w1 := hb0.trans (hb1.mono hb0.size)
  have hI0 : LaidI w w1.heap.size pb (k + m) 0 (w1.alloc (.cells #[.int .i64 33, .int .i64 0, .slice none 0 0] 67)) := by
    refine ⟨.slice none 0 0, hP.move (Mod.of_below (fun _ => False) ((Below.refl _ _).alloc (Nat.le_refl _) _)) (fun _ h => h.elim) (fun b hb => ?_), heap_alloc_new w1 _, blk_alloc hrb _, World.ownsRow_nil _ _ _ 1, hbw1.alloc hbw1.size _⟩
    rcases hb with hb | hb | hb
    · exact .inl hb
    · exact .inr (by omega)
    · cases hb
  have HI0 := Lib.hid hI0
  have hsbB : w1.heap.size ≠ w.heap.size := by omega
  have hsbL : w.heap.size ≤ w1.heap.size := by omega
  clear hP hrb hb1 hb0 hI0 hbw1
  go_wp2
  obtain ⟨wb, hwb⟩ : ∃ wb, w1.alloc (.cells #[.int .i64 33, .int .i64 0, .slice none 0 0] 67) = wb := ⟨_, rfl⟩
  rw [hwb] at HI0 ⊢
  clear hwb
  generalize w1.heap.size = sb at *
  clear hs1 w1
  go_loopw [15] (fun i wr => ∃ j : Nat, j ≤ k + m ∧ i = .int .i64 j ∧ LaidI w sb pb (k + m) j wr) (fun i _ => k + m - (intOf i).toNat)
  case atStart => exact ⟨0, by omega, rfl, HI0.out⟩
  case round =>
    obtain ⟨j, hj, rfl, hI⟩ := hrel
    obtain ⟨lv, hP, h1, h2, ho, hb⟩ := hI
    have hbs := hb.size
    have l1 := blk_lt h1
    have l2 := blk_lt h2
    obtain ⟨la, ln, lc, rfl⟩ := own_shape ho
    have e1 : ln = j := own_len ho
    subst e1
    by_cases hlt : ln < k + m
    · have hadd := PF_add hP (fun b hb => by
        rcases hb with hb | hb | hb
        · omega
        · omega
        · exact (ho.lt b hb).2) (by omega) 8 (by rw [drives_len]; omega)
      rw [drives_len] at hadd
      have HADD := Lib.hid hadd; have HO := Lib.hid ho; have H1 := Lib.hid h1; have H2 := Lib.hid h2; have HB := Lib.hid hb
      clear hP hadd ho h1 h2 hb
      go_wp2_with (fail)
      refine HADD.out.mono ?_
      rintro e w2 ⟨rfl, hP2, hm2⟩
      have h1' := blk_mod hm2 H1.out (fun h => h.2 (.inr (.inl rfl)))
      have h2' := blk_mod hm2 H2.out (fun h => h.2 (.inl rfl))
      have ho2 := own_mod HO.out hm2 (fun g hg h => h.2 (.inr (.inr hg)))
      have hb2 := below_mod HB.out hbs hm2 (fun b hb => hb.1)
      have hc2 : w2.cell? ⟨sb, 2, none⟩ = some (.slice la ln lc) := blk_cell h1' rfl
      have hb2s := hb2.size
      have l1' := blk_lt h1'
      have P2 := Lib.hid hP2; have H1' := Lib.hid h1'; have H2' := Lib.hid h2'; have HO2 := Lib.hid ho2; have HB2 := Lib.hid hb2
      clear hP2 h1' h2' ho2 hb2 hm2 HADD HO H1 H2 HB
      go_wp2_with (at_builtin; refine wpList_app_new rfl _ _ _ rfl E65 w.heap.size _ 1 HO2.out rfl rfl rfl (by intro u hu; simp at hu; subst hu; rfl) (by omega) (by decide) hb2s ?_)
      intro v' w5 hown5 hg5 _
      have hown5' : w5.ownsRow w.heap.size 3 1 v' (ln + 1) ((locsM (k + m) ln).map (Value.int .i64) ++ [.int .i64 (((k + m : Nat) : Int) - 1 - ln)]) := by simpa using hown5
      have hm5 : Mod (fun b => (Value.slice la ln lc).ownBlock = some b) w2 w5 := (Mod.refl _ w2).grown hg5.by_ (fun k hk _ => hk)
      have q1 := blk_mod hm5 H1'.out (own_not67 HO2.out H1'.out)
      have c5 : w5.cell? ⟨sb, 2, none⟩ = some (.slice la ln lc) := blk_cell q1 rfl
      have f5 := blk_free q1 2
      have l5 := blk_lt q1
      have R := Lib.hid (LaidI.next hsbB hsbL P2.out H1'.out H2'.out HO2.out HB2.out hown5' hg5)
      obtain ⟨a6, n6, c6, rfl⟩ := own_shape hown5'
      clear hown5 hown5' hg5 hm5 q1 P2 H1' H2' HO2 HB2 hc2
      go_wp2
      go_roundw
      case rel => exact ⟨ln + 1, by omega, by go_num, R.out⟩
      case measure => simp [intOf]; omega
    · obtain rfl : ln = k + m := by omega
      have HP := Lib.hid hP; have HO := Lib.hid ho; have H1 := Lib.hid h1; have H2 := Lib.hid h2; have HB := Lib.hid hb
      have hx0 : Below w.heap.size w (wr.alloc (.cells #[] tU8)) := hb.alloc hbs _
      have HD1 := Lib.hid ((HD.out.below hx0).mono (T := fun _ => True) (fun _ _ _ => trivial))
      have HL := Lib.hid (own_lit0 wr wr.heap.size tU8 1 (Nat.le_refl _))
      clear hP ho h1 h2 hb HI0 HD hx0
      go_wp2_with (at_builtin; refine wpList_app_dat rfl _ _ _ rfl E28 wr.heap.size HL.out HD1.out rfl rfl (by omega) (by simp) ?_)
      intro v1 w4 o1 g1
      have hb4 := Grew.new ((Below.refl wr.heap.size wr).alloc (Nat.le_refl _) (.cells #[] tU8)) (by simp) g1 (fun g hg => (HL.out.lt g hg).1)
      have hb4s := hb4.size
      obtain ⟨a1, n1, c1, rfl⟩ := own_shape o1
      have O1 := Lib.hid o1; have B4 := Lib.hid hb4
      clear o1 g1 hb4 HL HD1
      go_wp2_with (at_builtin; refine wpList_zeros rfl _ _ _ _ rfl E28 (k := .i64) (by rfl) wr.heap.size _ 32 O1.out rfl rfl rfl rfl (by omega) hb4s ?_)
      intro v2 w5 o2 g2
      have hb5 := Grew.new B4.out hb4s g2 (fun g hg => (O1.out.lt g hg).1)
      have hb5s := hb5.size
      have o2' : w5.ownsRow wr.heap.size tU8 1 v2 (d.length + 32) (u8s (d ++ List.replicate 32 0)) := by
        rw [u8s_append, ← u8s_zeros]
        simpa using o2
      have hB2 := Bs.of_own o2' (fun b => wr.heap.size ≤ b) (fun b hb _ => hb)
      obtain ⟨a2, c2, rfl⟩ := hB2.shape
      have hl2 : (d ++ List.replicate 32 (0 : UInt8)).length = d.length + 32 := by simp
      rw [hl2] at hB2
      have hc2 := hB2.cap
      have HB2 := Lib.hid (hB2.take (8 * k) (by omega))
      have hc3 : ¬ c2 = 0 := by omega
      obtain ⟨b2, q2, _, hq⟩ : ∃ b2 q2 c, (Value.slice a2 (d.length + 32) c2) = .slice (some ⟨b2, q2, none⟩) (d.length + 32) c := by
        obtain ⟨b, o, c, e, _⟩ := (by rw [← hl2] at hB2; exact hB2 : Bs w5 (fun b => wr.heap.size ≤ b) (.slice a2 (d ++ List.replicate 32 (0 : UInt8)).length c2) (d ++ List.replicate 32 (0 : UInt8))).cellAt (by simp)
        rw [hl2] at e
        exact ⟨b, o, c, e⟩
      have ea : a2 = some ⟨b2, q2, none⟩ := by injection hq
      subst ea
      have hfl := fullM_length k hk d
      have B5 := Lib.hid hb5
      clear o2 o2' g2 O1 B4 hB2 hq hb5
      rw [hl2]
      have HREN := Lib.hid (renc_any k m hk1 hk hm HB2.out hfl)
      clear HB2 hfl
      go_wp2_with (fail)
      refine HREN.out.mono ?_
      rintro e w9 ⟨v9, rfl, ht9, hb9⟩
      have hb9s := hb9.size
      have hbr9 : Below wr.heap.size wr w9 := B5.out.trans (hb9.mono hb5s)
      have hbr9s := hbr9.size
      have hrl : (rencM k m (fullM k d)).length = k + m := by unfold rencM; exact rtimesK_length _ _ _
      obtain ⟨all, hall⟩ : ∃ all, rencM k m (fullM k d) = all := ⟨_, rfl⟩
      have htb := ht9.toTb (T := fun b => w5.heap.size ≤ b) (fun _ h => h) (fun _ h => h)
      have hlm : laidM k m d lack spoil = laidK (k + m) all lack spoil (k + m) := by unfold laidM; rw [hall]
      change Tb w9 (fun b => w5.heap.size ≤ b) v9 (rencM k m (fullM k d)) at htb
      rw [hall] at htb hrl
      have HLM0 := hlm
      obtain ⟨K0, hK0⟩ : ∃ K0 : Nat → Prop, (fun b => b = w.heap.size ∨ b = sb ∨ (Value.slice la (k + m) lc).ownBlock = some b ∨ (w5.heap.size ≤ b ∧ b < w9.heap.size)) = K0 := ⟨_, rfl⟩
      have kB : K0 w.heap.size := by rw [← hK0]; exact .inl rfl
      have kS : K0 sb := by rw [← hK0]; exact .inr (.inl rfl)
      have kT : ∀ b, w5.heap.size ≤ b → b < w9.heap.size → K0 b := fun b h h' => by rw [← hK0]; exact .inr (.inr (.inr ⟨h, h'⟩))
      have kL : ∀ b, (Value.slice la (k + m) lc).ownBlock = some b → K0 b := fun b h => by rw [← hK0]; exact .inr (.inr (.inl h))
      have kb : ∀ b, K0 b → w.heap.size ≤ b ∧ b < w9.heap.size := fun b h => by
        rw [← hK0] at h
        rcases h with h | h | h | h
        · omega
        · omega
        · have := HO.out.lt b h; omega
        · omega
      obtain ⟨W, hW⟩ : ∃ W, w9.alloc (.cells #[] 28) = W := ⟨_, rfl⟩
      have hbW : Below w9.heap.size w9 W := by rw [← hW]; exact (Below.refl _ _).alloc (Nat.le_refl _) _
      have hWs : W.heap.size = w9.heap.size + 1 := by rw [← hW]; simp
      have hbrW := hbr9.trans (hbW.mono hbr9s)
      have hJ0 : LaidJ W w.heap.size w9.heap.size K0 (fun b => w5.heap.size ≤ b ∧ b < w9.heap.size) pb (laidK (k + m) all lack spoil 0) (.slice (some ⟨w9.heap.size, 0, none⟩) 0 0) W := by
        refine ⟨⟨[], ?_, fun i hi => absurd hi (Nat.not_lt_zero i)⟩, HP.out.move (Mod.of_below (fun _ => False) hbrW) (fun _ h => h.elim) (fun b hb => ?_), Mod.refl _ _⟩
        · rw [← hW]; exact own_lit0 w9 _ _ _ (Nat.le_refl _)
        · rcases hb with hb | hb
          · rw [← hK0] at hb
            rcases hb with hb | hb | hb | hb
            · exact .inl (.inl hb)
            · exact .inl (.inr (.inl hb))
            · exact .inl (.inr (.inr hb))
            · exact .inr (by omega)
          · have e : w9.heap.size = b := by injection hb
            exact .inr (by omega)
      have hNs : Ns W (fun b => K0 b ∧ b ≠ w.heap.size) (.slice la (k + m) lc) (locsM (k + m) (k + m)) := Sv.of_own (own_below HO.out hbrW) _ (fun g hg => ⟨kL g hg, fun e => own_not67 HO.out H2.out (e ▸ hg)⟩)
      have hTW : Tb W (fun b => w5.heap.size ≤ b ∧ b < w9.heap.size) v9 all := (htb.mono (T := fun b => w5.heap.size ≤ b ∧ b < w9.heap.size) (fun b hb h => ⟨h, hb⟩)).below hbW
      have hsbW := (hbrW.block sb l1).trans H1.out
      have hBW := (hbrW.block w.heap.size l2).trans H2.out
      have h8 : ∀ i, i < k + m → (all.getD i []).length = 8 := fun i hi => by rw [← hall]; exact renc_row k m _ hk1 (fullM_length k hk d) i hi
      have hcalm : ∀ i, i ≤ k + m → (laidK (k + m) all lack spoil i).1.calm := fun i hi => (laid_PH (k + m) (by omega) all (fun i => by
        by_cases h : i < k + m
        · rw [h8 i h]; decide
        · rw [List.getD_eq_getElem?_getD, List.getElem?_eq_none (by omega)]; simp) lack spoil i hi).calm
      obtain ⟨n, hn⟩ : ∃ n, k + m = n := ⟨_, rfl⟩
      have hni : (k : Int) + (m : Int) = (n : Int) := by omega
      obtain ⟨tb, to, tc, rfl, tS, tl, tcap, trow⟩ := hTW.cellAt (by omega)
      obtain ⟨lb, lo, lc', hle, lS, ll, _, lcell⟩ := Sv.cellAt hNs (by rw [List.length_map, locsM_length]; omega)
      have hla : la = some ⟨lb, lo, none⟩ := by injection hle
      subst hla
      have lcell' : ∀ j, j < n → W.cell? ⟨lb, lo + j, none⟩ = some (.int .i64 ((n : Int) - 1 - j)) := fun j hj => by
        rw [lcell j (by rw [List.length_map, locsM_length]; omega)]
        rw [hn]
        simp [List.getD_eq_getElem?_getD, locsM, hj]
      rw [hn] at h8 hcalm hrl hJ0 lcell hNs hle kL hsbW
      rw [hrl] at trow
      have HALL := Lib.hid hrl; have H8 := Lib.hid h8; have HC := Lib.hid hcalm; have TR := Lib.hid trow; have LC := Lib.hid lcell'; have HJ0 := Lib.hid hJ0; have KT := Lib.hid kT; have KB := Lib.hid kb
      have HN := Lib.hid hNs; have HT := Lib.hid hTW; have SW := Lib.hid hsbW; have BW := Lib.hid hBW; have BB := Lib.hid (hbrW); have KL := Lib.hid kL
      have HB0 := Lib.hid (HB.out.trans (hbrW.mono hbs))
      rw [hrl]
      clear ht9 hb9 hlm HREN B5 hrl h8 hcalm trow lcell lcell' hJ0 kT kb hNs hTW hsbW hBW hbrW kL HP HO H1 H2 HB htb hall hle hK0 hbr9 hbW
      go_wp2_with (fail)
      clear hW
      rw [hn] at HLM0
      have HLM := Lib.hid HLM0
      clear HLM0
      rw [hn]
      have HNN := Lib.hid hn
      clear hn hbr9s
      obtain ⟨wo, hwo⟩ : ∃ wo, wo = wr := ⟨_, rfl⟩
      subst hwo
      go_loopw [18, 19] (fun v i wx => ∃ j : Nat, j ≤ n ∧ i = .int .i64 j ∧ LaidJ W w.heap.size w9.heap.size K0 (fun b => w5.heap.size ≤ b ∧ b < w9.heap.size) pb (laidK n all lack spoil j) v wx) (fun _ i _ => n - (intOf i).toNat)
      case atStart => exact ⟨0, by omega, rfl, HJ0.out⟩
      case round =>
        obtain ⟨j, hj, rfl, ht, hP, hm9⟩ := hrel
        obtain ⟨vs, q1, q2⟩ := ht
        obtain ⟨ha, hn1, hc, rfl⟩ := own_shape q1
        have hl2 : (laidK n all lack spoil j).2.length = j := by rw [laid_have]; simp
        rw [hl2] at q1 q2
        have e1 : hn1 = j := own_len q1
        subst e1
        by_cases hlt : hn1 < n
        · obtain ⟨ra, rc, rcell, hrow⟩ := TR.out hn1 hlt
          have hr8 := H8.out hn1 hlt
          have hss := laidK_succ n all lack spoil hn1
          have hcj := HC.out hn1 hj
          generalize all.getD hn1 [] = row at *
          rw [hr8] at rcell hrow
          have hm9s := hm9.size
          have rcell' := (hm9.cell (p := ⟨tb, to + hn1, none⟩) tl (fun h => h.2 (KT.out tb tS.1 tS.2))).trans rcell
          have hrow' : Bs wr (fun b => (w5.heap.size ≤ b ∧ b < w9.heap.size) ∧ (Value.slice ha hn1 hc).ownBlock ≠ some b) (.slice ra 8 rc) row := (hrow.kept hm9 (fun b hb hs h => h.2 (KT.out b hs.1 hs.2))).mono (fun b _ h => ⟨h, fun e => by have := (q1.lt b e).1; omega⟩)
          have lcell' := (hm9.cell (p := ⟨lb, lo + hn1, none⟩) ll (fun h => h.2 lS.1)).trans (LC.out hn1 hlt)
          have hsx := blk_mod hm9 SW.out (fun h => h.2 kS)
          have scell : wr.cell? ⟨sb, 2, none⟩ = some (.slice (some ⟨lb, lo, none⟩) n lc) := blk_cell hsx rfl
          have hb1 := bit_int lack hn1
          have hb2 := bit_int spoil hn1
          have hcap3 : 8 ≤ rc := hrow'.cap
          have hcap4 : ¬ rc = 0 := by omega
          obtain ⟨rb, ro, hra⟩ : ∃ rb ro, ra = some ⟨rb, ro, none⟩ := by
            obtain ⟨b, o, c, e, _⟩ := (by rw [← hr8] at hrow'; exact hrow' : Bs wr _ (.slice ra row.length rc) row).cellAt (by omega)
            exact ⟨b, o, by injection e⟩
          subst hra
          generalize laidK n all lack spoil hn1 = t at *
          obtain ⟨pm, rows⟩ := t
          simp only at hl2 hP hss hcj q2
          have hBb : w.heap.size ≤ w9.heap.size := by omega
          have hxs : w9.heap.size ≤ wr.heap.size := by omega
          have HM9 := Lib.hid hm9; have HROW := Lib.hid hrow'; have HP9 := Lib.hid hP; have Q1 := Lib.hid q1; have Q2 := Lib.hid q2; have HCJ := Lib.hid hcj
          clear hm9 hrow hrow' rcell hsx hP q1 q2 hcj
          cases hbl : bitB lack hn1 with
          | true =>
            rw [hbl] at hb1 hss
            rw [if_pos rfl] at hb1 hss
            have HSS := Lib.hid hss
            have NB := Lib.hid (Bs.nil wr (fun b => (w5.heap.size ≤ b ∧ b < w9.heap.size) ∧ (Value.slice ha hn1 hc).ownBlock ≠ some b))
            clear hss hbl hb2
            go_wp2_with (at_builtin; refine wpList_app_new rfl _ _ _ rfl E59 w9.heap.size _ 1 Q1.out rfl rfl rfl (by intro u hu; simp at hu; subst hu; rfl) (by omega) (by decide) hxs ?_)
            intro v' w7 o7 g7 _
            have R := Lib.hid (LaidJ.next (row := []) hBb (fun b h => (KB.out b h).2) HM9.out HP9.out (by rw [hl2]; exact Q1.out) (by rw [hl2]; exact Q2.out) NB.out (by rw [hl2]; exact o7) g7)
            obtain ⟨a7, n7, c7, rfl⟩ := own_shape o7
            have e7 : n7 = hn1 + 1 := own_len o7
            subst e7
            clear o7 g7 HM9 HP9 Q1 Q2 NB HROW
            go_wp2
            go_roundw
            case rel => exact ⟨hn1 + 1, by omega, by go_num, by rw [HSS.out]; exact R.out⟩
            case measure => simp [intOf]; omega
          | false =>
            rw [hbl, if_neg (by decide)] at hb1 hss
            cases hbs' : bitB spoil hn1 with
            | true =>
              rw [hbs'] at hb2 hss
              rw [if_pos rfl] at hb2 hss
              have HSS := Lib.hid hss
              clear hss hbl hbs'
              have hst := PF_store HP9.out (fun b hb => by
                rcases hb with hb | hb
                · have := (KB.out b hb).2; omega
                · exact (Q1.out.lt b hb).2) (by omega) HCJ.out ((n : Int) - 1 - hn1) 33 hn1 (HROW.out.take 3 (by omega))
              have HST := Lib.hid hst
              clear hst
              go_wp2_with (fail)
              refine HST.out.mono ?_
              rintro e w2 ⟨rfl, hP2, hm2⟩
              have hm2s := hm2.size
              have P2 := Lib.hid hP2
              have O2 := Lib.hid (own_mod Q1.out hm2 (fun g hg h => h.2 (.inr hg)))
              have V2 := Lib.hid (fun i hi => (Q2.out i hi).kept hm2 (fun b _ hs h => h.2 (.inl (KT.out b hs.1.1 hs.1.2))))
              have X2 := Lib.hid (Bs.nil w2 (fun b => (w5.heap.size ≤ b ∧ b < w9.heap.size) ∧ (Value.slice ha hn1 hc).ownBlock ≠ some b))
              have M2 := Lib.hid (HM9.out.trans (hm2.mono (T := fun b => w.heap.size ≤ b ∧ ¬ K0 b) (fun b _ h => ⟨h.1, fun hk => h.2 (.inl hk)⟩)))
              clear hP2 hm2 HST HP9 HM9 Q1 Q2
              go_wp2_with (at_builtin; refine wpList_app_new rfl _ _ _ rfl E59 w9.heap.size _ 1 O2.out rfl rfl rfl (by intro u hu; simp at hu; subst hu; rfl) (by omega) (by decide) (by omega) ?_)
              intro v' w7 o7 g7 _
              have R := Lib.hid (LaidJ.next (row := []) hBb (fun b h => (KB.out b h).2) M2.out P2.out (by rw [hl2]; exact O2.out) (by rw [hl2]; exact V2.out) X2.out (by rw [hl2]; exact o7) g7)
              obtain ⟨a7, n7, c7, rfl⟩ := own_shape o7
              have e7 : n7 = hn1 + 1 := own_len o7
              subst e7
              clear o7 g7 M2 P2 O2 V2 X2 HROW
              go_wp2
              go_roundw
              case rel => exact ⟨hn1 + 1, by omega, by go_num, by rw [HSS.out]; exact R.out⟩
              case measure => simp [intOf]; omega
            | false =>
              rw [hbs', if_neg (by decide)] at hb2 hss
              have HSS := Lib.hid hss
              clear hss hbl hbs'
              have hst := PF_store HP9.out (fun b hb => by
                rcases hb with hb | hb
                · have := (KB.out b hb).2; omega
                · exact (Q1.out.lt b hb).2) (by omega) HCJ.out ((n : Int) - 1 - hn1) 33 hn1 (HROW.out)
              have HST := Lib.hid hst
              clear hst
              go_wp2_with (fail)
              refine HST.out.mono ?_
              rintro e w2 ⟨rfl, hP2, hm2⟩
              have hm2s := hm2.size
              have P2 := Lib.hid hP2
              have O2 := Lib.hid (own_mod Q1.out hm2 (fun g hg h => h.2 (.inr hg)))
              have V2 := Lib.hid (fun i hi => (Q2.out i hi).kept hm2 (fun b _ hs h => h.2 (.inl (KT.out b hs.1.1 hs.1.2))))
              have X2 := Lib.hid (HROW.out.kept hm2 (fun b _ hs h => h.2 (.inl (KT.out b hs.1.1 hs.1.2))))
              have M2 := Lib.hid (HM9.out.trans (hm2.mono (T := fun b => w.heap.size ≤ b ∧ ¬ K0 b) (fun b _ h => ⟨h.1, fun hk => h.2 (.inl hk)⟩)))
              clear hP2 hm2 HST HP9 HM9 Q1 Q2
              go_wp2_with (at_builtin; refine wpList_app_new rfl _ _ _ rfl E59 w9.heap.size _ 1 O2.out rfl rfl rfl (by intro u hu; simp at hu; subst hu; rfl) (by omega) (by decide) (by omega) ?_)
              intro v' w7 o7 g7 _
              have R := Lib.hid (LaidJ.next (row := row) hBb (fun b h => (KB.out b h).2) M2.out P2.out (by rw [hl2]; exact O2.out) (by rw [hl2]; exact V2.out) X2.out (by rw [hl2]; exact o7) g7)
              obtain ⟨a7, n7, c7, rfl⟩ := own_shape o7
              have e7 : n7 = hn1 + 1 := own_len o7
              subst e7
              clear o7 g7 M2 P2 O2 V2 X2 HROW
              go_wp2
              go_roundw
              case rel => exact ⟨hn1 + 1, by omega, by go_num, by rw [HSS.out]; exact R.out⟩
              case measure => simp [intOf]; omega
        · obtain rfl : hn1 = n := by omega
          have hsx := blk_mod hm9 SW.out (fun h => h.2 kS)
          have hbx := blk_mod hm9 BW.out (fun h => h.2 kB)
          have s0 : wr.cell? ⟨sb, 0, none⟩ = some (.int .i64 33) := blk_cell hsx rfl
          have s1 : wr.cell? ⟨sb, 1, none⟩ = some (.int .i64 0) := blk_cell hsx rfl
          have s2 : wr.cell? ⟨sb, 2, none⟩ = some (.slice (some ⟨lb, lo, none⟩) hn1 lc) := blk_cell hsx rfl
          have c0 : wr.cell? ⟨w.heap.size, 0, none⟩ = some (.int .i64 0) := blk_cell hbx rfl
          have c1 : wr.cell? ⟨w.heap.size, 1, none⟩ = some (.int .i64 0) := blk_cell hbx rfl
          have c2' : wr.cell? ⟨w.heap.size, 2, none⟩ = some (.slice none 0 0) := blk_cell hbx rfl
          have f0 := blk_free hbx 0
          have f1 := blk_free hbx 1
          have f2 := blk_free hbx 2
          have lbx := blk_lt hbx
          have HM9 := Lib.hid hm9; have HP9 := Lib.hid hP; have Q1 := Lib.hid q1; have Q2 := Lib.hid q2; have HBX := Lib.hid hbx
          clear hsx hbx hm9 hP q1 q2
          have hsbB' : w.heap.size ≠ sb := Ne.symm hsbB
          go_wp2
          go_region_law (go_simp)
          go_wp2
          (try simp only [Exit.inBlock, Exit.then])
          have hm3 : Mod (fun b => b = w.heap.size) wr ((((wr.setCell ⟨w.heap.size, 0, none⟩ (.int .i64 33)).setCell ⟨w.heap.size, 1, none⟩ (.int .i64 0)).setCell ⟨w.heap.size, 2, none⟩ (.slice (some ⟨lb, lo, none⟩) hn1 lc)).drew) :=
            (((Mod.set1 _ _ _).trans (Mod.set1 _ _ _)).trans (Mod.set1 _ _ _)).drew
          have hb3 : ((((wr.setCell ⟨w.heap.size, 0, none⟩ (.int .i64 33)).setCell ⟨w.heap.size, 1, none⟩ (.int .i64 0)).setCell ⟨w.heap.size, 2, none⟩ (.slice (some ⟨lb, lo, none⟩) hn1 lc)).drew).heap[w.heap.size]? = some (.cells #[.int .i64 33, .int .i64 0, .slice (some ⟨lb, lo, none⟩) hn1 lc] 67 (0, 0)) :=
            blk_set (blk_set (blk_set HBX.out 0 (.int .i64 33)) 1 (.int .i64 0)) 2 (.slice (some ⟨lb, lo, none⟩) hn1 lc)
          generalize ((((wr.setCell ⟨w.heap.size, 0, none⟩ (.int .i64 33)).setCell ⟨w.heap.size, 1, none⟩ (.int .i64 0)).setCell ⟨w.heap.size, 2, none⟩ (.slice (some ⟨lb, lo, none⟩) hn1 lc)).drew) = wz at *
          refine bodyPost_ret (results_tct rfl _ _ w.heap.size 67 _ (0, 0) _ (.pointer (some ⟨pb, 0, none⟩)) (.slice ha hn1 hc) rfl rfl rfl hb3 Try.underlying67 rfl (by kernel_rfl)) rfl ?_
          rw [HLM.out, HNN.out]
          have hs3 := hm3.size
          have hs9 := HM9.out.size
          refine ⟨pb, _, _, fun b => K0 b ∨ (Value.slice ha hn1 hc).ownBlock = some b, rfl, fun b hb => ?_, HP9.out.move hm3 (fun b hb => .inl (hb ▸ kB)) (fun b hb => .inl hb), ?_, ?_, ?_⟩
          · rcases hb with hb | hb
            · have := KB.out b hb; omega
            · have := Q1.out.lt b hb; omega
          · exact ((HN.out.kept HM9.out (fun b _ hs h => h.2 hs.1)).kept hm3 (fun b _ hs h => hs.2 h)).mono (fun b _ h => .inl h.1)
          · refine Tb.of_own _ (own_mod Q1.out hm3 (fun g hg e => by have := Q1.out.lt g hg; omega)) (fun g hg => .inr hg) (by rw [hl2]) (fun i hi => ?_)
            exact ((Q2.out i hi).kept hm3 (fun b _ hs h => by have := hs.1.1; omega)).mono (fun b _ h => .inl (KT.out b h.1.1 h.1.2))
          · exact below_mod (below_mod HB0.out (by omega) HM9.out (fun b h => h.1)) (by omega) hm3 (fun b h => by omega)
end Go.Proofs.Fl

namespace Go.Proofs.Fl
open Go.RowKit

/-! ### slices of ints that are copied -/
theorem ints_one (l : List Int) : ∀ u ∈ l.map (Value.int .i64), u.oneCell' = true := by
  intro u hu
  obtain ⟨_, _, rfl⟩ := List.mem_map.1 hu
  rfl
set_option maxHeartbeats 1000000 in
set_option maxRecDepth 100000 in
theorem clone93 {S : Nat → Prop} {v : Value} {l : List Int} {w : World} (hN : Ns w S v l) (h0 : 0 < l.length) (hn : l.length ≤ 1000) :
    Calls Try.prog 93 #[v] w fun e w' => ∃ b c, e = .returned (.slice (some ⟨b, 0, none⟩) l.length c) ∧ l.length ≤ c ∧ Ns w' (Fresh w) (.slice (some ⟨b, 0, none⟩) l.length c) l ∧ Below w.heap.size w w' := by
  obtain ⟨b, o, c, rfl, _, hb, _, hc⟩ := Sv.cellAt hN (by rw [List.length_map]; exact h0)
  rw [List.length_map] at hc ⊢
  have HC := Lib.hid hc
  have hnil := fun (w : World) (a : Option Addr) (n c : Nat) => Lib.run_eql_slice_nil (P := Try.prog) w _ _ a n c 0 0 Try.underlying65
  have HL := Lib.hid (own_lit0 w w.heap.size 3 1 (Nat.le_refl _))
  clear hN hc
  go_enter Try.func93, Try.ntmps93
  go_wp2_with (at_builtin; refine wpList_app rfl _ _ _ rfl E65 w.heap.size HL.out ⟨b, o, none⟩ l.length c (l.map (Value.int .i64)) rfl rfl (by simp) (fun j u hu => by
    have hj : j < l.length := by have := (List.getElem?_eq_some_iff.1 hu).1; simpa using this
    have ha : (⟨b, o, none⟩ : Addr).add j = ⟨b, o + j, none⟩ := by unfold Addr.add; split <;> simp_all
    rw [ha, Below.cell ((Below.refl w.heap.size w).alloc (Nat.le_refl _) _) (p := ⟨b, o + j, none⟩) hb, HC.out j hj, ← hu]
    simp [List.getD_eq_getElem?_getD, hj]) (ints_one l) (by omega) (by decide) (by simp) ?_)
  intro v' w1 ho hg _
  have hb1 := Grew.new ((Below.refl w.heap.size w).alloc (Nat.le_refl _) (.cells #[] 3)) (by simp) hg (fun g hg => (HL.out.lt g hg).1)
  have hNs : Ns w1 (Fresh w) v' l := Sv.of_own ho _ (fun g hg => (ho.lt g hg).1)
  obtain ⟨g', cap', rfl⟩ : ∃ g cap, v' = .slice (some ⟨g, 0, none⟩) l.length cap := by
    rcases ho.2 with ⟨_, h⟩ | ⟨g, cap, _, rfl, _⟩
    · omega
    · exact ⟨g, cap, rfl⟩
  have hcap : l.length ≤ cap' := by
    obtain ⟨_, _, e, h1, _⟩ := hNs
    injection e with _ e1 e2
    rw [List.length_map] at h1 e1
    omega
  have HN := Lib.hid hNs; have HB := Lib.hid hb1
  clear ho hg hNs hb1 HL
  go_wp2
  go_ret
  exact ⟨_, _, rfl, hcap, HN.out, HB.out⟩
set_option maxHeartbeats 400000 in
set_option maxRecDepth 100000 in
theorem clip97 (b n c : Nat) (w : World) (h0 : 0 < n) (hn : n ≤ c) (hm : n ≤ 1000) : Calls Try.prog 97 #[.slice (some ⟨b, 0, none⟩) n c] w fun e w' => e = .returned (.slice (some ⟨b, 0, none⟩) n n) ∧ w = w' := by
  have h1 : ¬ n = 0 := by omega
  go_enter Try.func97, Try.ntmps97
  go_wp2
  go_ret
  exact ⟨rfl, rfl⟩
theorem Ns.clip {w : World} {S : Nat → Prop} {b c : Nat} {l : List Int} (h : Ns w S (.slice (some ⟨b, 0, none⟩) l.length c) l) : Ns w S (.slice (some ⟨b, 0, none⟩) l.length l.length) l := by
  obtain ⟨ao, c', e, h1, h2, h3⟩ := h
  injection e with e _ _
  subst e
  rcases h3 with ⟨h3, _⟩ | ⟨b', o', h3, r⟩
  · cases h3
  · refine ⟨_, l.length, by rw [List.length_map], by rw [List.length_map]; exact Nat.le_refl _, ?_, .inr ⟨b', o', h3, r⟩⟩
    rw [List.length_map] at h1; omega

set_option maxHeartbeats 1000000 in
set_option maxRecDepth 100000 in
/-- rec.Clone, of a stripe that has places. -/
theorem recclone_any {S : Nat → Prop} {v : Value} {l : List Int} {w : World} (id ep : Int) (hN : Ns w S v l) (h0 : 0 < l.length) (hn : l.length ≤ 1000) :
    Calls Try.prog 92 #[stripeV id ep v] w fun e w' => ∃ b, e = .returned (stripeV id ep (.slice (some ⟨b, 0, none⟩) l.length l.length)) ∧ Ns w' (Fresh w) (.slice (some ⟨b, 0, none⟩) l.length l.length) l ∧ Below w.heap.size w w' := by
  obtain ⟨vb, vo, vc, rfl, _, hvb, _, _⟩ := Sv.cellAt hN (by rw [List.length_map]; exact h0)
  rw [List.length_map] at hN ⊢
  obtain ⟨W, hW⟩ : ∃ W, (w.alloc (.cells #[.int .i64 id, .int .i64 ep, .slice (some ⟨vb, vo, none⟩) l.length vc] 67)).alloc (.cells #[.int .i64 0, .int .i64 0, .slice none 0 0] 67) = W := ⟨_, rfl⟩
  have hbW : Below w.heap.size w W := by rw [← hW]; exact ((Below.refl _ _).alloc (Nat.le_refl _) _).alloc (by simp) _
  have h1 : W.heap[w.heap.size]? = some (.cells #[.int .i64 id, .int .i64 ep, .slice (some ⟨vb, vo, none⟩) l.length vc] 67 (0, 0)) := by rw [← hW]; exact heap_alloc2_old _ _ _
  have h2 : W.heap[w.heap.size + 1]? = some (.cells #[.int .i64 0, .int .i64 0, .slice none 0 0] 67 (0, 0)) := by rw [← hW]; exact heap_alloc2_new _ _ _
  have hcl := clone93 (hN.below hbW) h0 hn
  have HC := Lib.hid hcl; have H1 := Lib.hid h1; have H2 := Lib.hid h2; have HBW := Lib.hid hbW
  have hl1 := blk_lt h1
  have hl2 := blk_lt h2
  have s2 : W.cell? ⟨w.heap.size, 2, none⟩ = some (.slice (some ⟨vb, vo, none⟩) l.length vc) := blk_cell h1 rfl
  clear hcl h1 h2 hN hbW
  unfold stripeV
  go_enter Try.func92, Try.ntmps92
  go_wp2_with (fail)
  refine HC.out.mono ?_
  rintro e w1 ⟨b, c, rfl, hbc, hNs, hb1⟩
  have q1 := (hb1.block _ hl1).trans H1.out
  have q2 := (hb1.block _ hl2).trans H2.out
  have hNc := Ns.clip hNs
  have HBF := Lib.hid (show Ns w1 (fun x => Fresh w x ∧ Fresh W x) (.slice (some ⟨b, 0, none⟩) l.length l.length) l from Sv.mono hNc (fun x _ h => ⟨Nat.le_trans HBW.out.size h, h⟩))
  have Q1 := Lib.hid q1; have Q2 := Lib.hid q2; have HNC := Lib.hid hNc; have HB1 := Lib.hid (HBW.out.trans (hb1.mono HBW.out.size))
  have c0 : w1.cell? ⟨w.heap.size, 0, none⟩ = some (.int .i64 id) := blk_cell q1 rfl
  have c1 : w1.cell? ⟨w.heap.size, 1, none⟩ = some (.int .i64 ep) := blk_cell q1 rfl
  have c2 : w1.cell? ⟨w.heap.size, 2, none⟩ = some (.slice (some ⟨vb, vo, none⟩) l.length vc) := blk_cell q1 rfl
  have f2 := blk_free q1 2
  have d0 : w1.cell? ⟨w.heap.size + 1, 0, none⟩ = some (.int .i64 0) := blk_cell q2 rfl
  have d1 : w1.cell? ⟨w.heap.size + 1, 1, none⟩ = some (.int .i64 0) := blk_cell q2 rfl
  have d2 : w1.cell? ⟨w.heap.size + 1, 2, none⟩ = some (.slice none 0 0) := blk_cell q2 rfl
  have g0 := blk_free q2 0
  have g1 := blk_free q2 1
  have g2 := blk_free q2 2
  clear q1 q2 hNs hNc HC H1 H2 s2
  go_wp2_with (go_at_call 97; refine (clip97 b l.length c _ h0 hbc hn).mono ?_; rintro e wy ⟨rfl, rfl⟩)
  have hm : Mod (fun x => x = w.heap.size ∨ x = w.heap.size + 1) w1 ((((w1.setCell ⟨w.heap.size, 2, none⟩ (.slice (some ⟨b, 0, none⟩) l.length l.length)).setCell ⟨w.heap.size + 1, 0, none⟩ (.int .i64 id)).setCell ⟨w.heap.size + 1, 1, none⟩ (.int .i64 ep)).setCell ⟨w.heap.size + 1, 2, none⟩ (.slice (some ⟨b, 0, none⟩) l.length l.length)) :=
    ((((Mod.refl _ w1).setCell (p := ⟨w.heap.size, 2, none⟩) (fun _ => .inl rfl) _).setCell (p := ⟨w.heap.size + 1, 0, none⟩) (fun _ => .inr rfl) _).setCell (p := ⟨w.heap.size + 1, 1, none⟩) (fun _ => .inr rfl) _).setCell (p := ⟨w.heap.size + 1, 2, none⟩) (fun _ => .inr rfl) _
  have q2 : ((((w1.setCell ⟨w.heap.size, 2, none⟩ (.slice (some ⟨b, 0, none⟩) l.length l.length)).setCell ⟨w.heap.size + 1, 0, none⟩ (.int .i64 id)).setCell ⟨w.heap.size + 1, 1, none⟩ (.int .i64 ep)).setCell ⟨w.heap.size + 1, 2, none⟩ (.slice (some ⟨b, 0, none⟩) l.length l.length)).heap[w.heap.size + 1]? = some (.cells #[.int .i64 id, .int .i64 ep, .slice (some ⟨b, 0, none⟩) l.length l.length] 67 (0, 0)) :=
    blk_set (blk_set (blk_set (blk_mod (Mod.set1 w.heap.size 2 _) Q2.out (by omega)) 0 _) 1 _) 2 _
  generalize ((((w1.setCell ⟨w.heap.size, 2, none⟩ (.slice (some ⟨b, 0, none⟩) l.length l.length)).setCell ⟨w.heap.size + 1, 0, none⟩ (.int .i64 id)).setCell ⟨w.heap.size + 1, 1, none⟩ (.int .i64 ep)).setCell ⟨w.heap.size + 1, 2, none⟩ (.slice (some ⟨b, 0, none⟩) l.length l.length)) = wz at *
  refine bodyPost_ret (results_cell_row rfl _ _ (w.heap.size + 1) 67 _ (0, 0) _ rfl q2 Try.underlying67 rfl (by kernel_rfl)) rfl ?_
  refine ⟨b, rfl, ?_, below_mod HB1.out HB1.out.size hm (fun x hx => by omega)⟩
  have hf := HBF.out
  refine (Sv.kept hf hm (fun x _ h h' => ?_)).mono (fun x _ h => h.1)
  have h1 : W.heap.size ≤ x := h.2
  omega
end Go.Proofs.Fl

namespace Go.Proofs.Fl
open Go.RowKit

/-! ### a move -/
structure MV where
  k : Nat
  m : Nat
  locs : List Int
  target : List Int
  places : List Int
  phase : Nat
  at_ : Nat
def MoveAt (w : World) (K : Nat → Prop) (xb : Nat) (v : MV) : Prop := ∃ lv tv pv, K xb ∧
  w.heap[xb]? = some (.cells #[.int .i64 v.k, .int .i64 v.m, .int .i64 33, .int .i64 0, lv, tv, pv, .int .i64 v.phase, .int .i64 v.at_] 122 (0, 0)) ∧
  Ns w (fun b => K b ∧ b ≠ xb) lv v.locs ∧ Ns w (fun b => K b ∧ b ≠ xb) tv v.target ∧ Ns w (fun b => K b ∧ b ≠ xb) pv v.places
theorem MoveAt.kept {w w' : World} {K T : Nat → Prop} {xb : Nat} {v : MV} (h : MoveAt w K xb v) (hm : Mod T w w') (hT : ∀ b, K b → ¬ T b) : MoveAt w' K xb v := by
  obtain ⟨lv, tv, pv, hx, hb, h1, h2, h3⟩ := h
  exact ⟨lv, tv, pv, hx, blk_mod hm hb (hT _ hx), Sv.kept h1 hm (fun b _ h => hT b h.1), Sv.kept h2 hm (fun b _ h => hT b h.1), Sv.kept h3 hm (fun b _ h => hT b h.1)⟩
theorem MoveAt.below {w w' : World} {K : Nat → Prop} {xb : Nat} {v : MV} (h : MoveAt w K xb v) (hb : Below w.heap.size w w') : MoveAt w' K xb v := h.kept (Mod.of_below (fun _ => False) hb) (fun _ _ h => h)
theorem MoveAt.mono {w : World} {K K' : Nat → Prop} {xb : Nat} {v : MV} (h : MoveAt w K xb v) (hK : ∀ b, b < w.heap.size → K b → K' b) : MoveAt w K' xb v := by
  obtain ⟨lv, tv, pv, hx, hb, h1, h2, h3⟩ := h
  exact ⟨lv, tv, pv, hK _ (blk_lt hb) hx, hb, Sv.mono h1 (fun b hb h => ⟨hK b hb h.1, h.2⟩), Sv.mono h2 (fun b hb h => ⟨hK b hb h.1, h.2⟩), Sv.mono h3 (fun b hb h => ⟨hK b hb h.1, h.2⟩)⟩
theorem own_not {w : World} {base size n b : Nat} {v : Value} {xs : List Value} {cs : Array Value} {e t : TypeId} (h : w.ownsRow base e size v n xs) (hb : w.heap[b]? = some (.cells cs t (0, 0))) (hte : t ≠ e) : v.ownBlock ≠ some b := by
  intro e'
  obtain ⟨c, q⟩ := own_ty h b e'
  rw [hb] at q
  injection q with q
  injection q with _ q
  exact hte q
/-- The places that differ. -/
def placesK (locs target : List Int) : Nat → List Int
  | 0 => []
  | i + 1 => if locs.getD i 0 = target.getD i 0 then placesK locs target i else placesK locs target i ++ [(i : Int)]
theorem placesK_len (locs target : List Int) (i : Nat) : (placesK locs target i).length ≤ i := by
  induction i with
  | zero => simp [placesK]
  | succ i ih =>
    unfold placesK
    split
    · omega
    · rw [List.length_append, List.length_singleton]; omega
def NewI (W : World) (xb k m : Nat) (lv tv : Value) (locs target : List Int) (i : Nat) (wr : World) : Prop := ∃ pv, wr.heap[xb]? = some (.cells #[.int .i64 k, .int .i64 m, .int .i64 33, .int .i64 0, lv, tv, pv, .int .i64 0, .int .i64 0] 122 (0, 0)) ∧
  wr.ownsRow W.heap.size 3 1 pv (placesK locs target i).length ((placesK locs target i).map (Value.int .i64)) ∧ Mod (fun b => b = xb ∨ W.heap.size ≤ b) W wr
theorem NewI.next {W wr w5 : World} {xb k m i : Nat} {lv tv pv v' : Value} {locs target : List Int} (hne : locs.getD i 0 ≠ target.getD i 0)
    (h1 : wr.heap[xb]? = some (.cells #[.int .i64 k, .int .i64 m, .int .i64 33, .int .i64 0, lv, tv, pv, .int .i64 0, .int .i64 0] 122 (0, 0)))
    (ho : wr.ownsRow W.heap.size 3 1 pv (placesK locs target i).length ((placesK locs target i).map (Value.int .i64))) (hm : Mod (fun b => b = xb ∨ W.heap.size ≤ b) W wr)
    (ho5 : w5.ownsRow W.heap.size 3 1 v' ((placesK locs target i).length + 1) ((placesK locs target i).map (Value.int .i64) ++ [.int .i64 (i : Int)])) (hg5 : Grew wr pv w5 v') : NewI W xb k m lv tv locs target (i + 1) (w5.setCell ⟨xb, 6, none⟩ v') := by
  have n1 := own_not ho h1 (by decide)
  have hm5 : Mod (fun b => pv.ownBlock = some b) wr w5 := (Mod.refl _ wr).grown hg5.by_ (fun k hk _ => hk)
  have q1 := blk_mod hm5 h1 n1
  have n3 := own_not ho5 q1 (by decide)
  have hms := Mod.set1 (w := w5) xb 6 v'
  have e : placesK locs target (i + 1) = placesK locs target i ++ [(i : Int)] := by
    show (if locs.getD i 0 = target.getD i 0 then _ else _) = _
    rw [if_neg hne]
  refine ⟨v', blk_set q1 6 v', ?_, ?_⟩
  · rw [e, List.map_append, List.length_append, List.length_singleton]
    exact own_mod ho5 hms (fun g hg h => n3 (h ▸ hg))
  · exact (hm.then hm5 (fun b _ h => .inr (ho.lt b h).1)).trans (hms.mono (fun b _ h => .inl h))
theorem NewI.same {W wr : World} {xb k m i : Nat} {lv tv : Value} {locs target : List Int} (he : locs.getD i 0 = target.getD i 0) (h : NewI W xb k m lv tv locs target i wr) : NewI W xb k m lv tv locs target (i + 1) wr := by
  have e : placesK locs target (i + 1) = placesK locs target i := by
    show (if locs.getD i 0 = target.getD i 0 then _ else _) = _
    rw [if_pos he]
  unfold NewI
  rw [e]; exact h

set_option maxHeartbeats 2000000 in
set_option maxRecDepth 100000 in
theorem movenew_any {S : Nat → Prop} {lv tv : Value} {locs target : List Int} {w : World} (k m : Nat) (h0 : 0 < k + m) (hkm : k + m ≤ 20) (hL : Ns w S lv locs) (hT : Ns w S tv target) (hl : locs.length = k + m) (ht : target.length = k + m) :
    Calls Try.prog 53 #[.int .i64 k, .int .i64 m, stripeV 33 0 lv, tv] w fun e w' => ∃ xb, e = .returned (.pointer (some ⟨xb, 0, none⟩)) ∧ MoveAt w' (Fresh w) xb ⟨k, m, locs, target, placesK locs target (k + m), 0, 0⟩ ∧ Below w.heap.size w w' := by
  obtain ⟨lb, lo, lc, rfl, _, hlb, _, hlc⟩ := Sv.cellAt hL (by rw [List.length_map]; omega)
  obtain ⟨tb, to, tc, rfl, _, htb, _, htc⟩ := Sv.cellAt hT (by rw [List.length_map]; omega)
  rw [List.length_map] at hlc hL htc hT ⊢
  rw [List.length_map]
  have hlc' : ∀ j, j < k + m → w.cell? ⟨lb, lo + j, none⟩ = some (.int .i64 (locs.getD j 0)) := fun j hj => by
    rw [hlc j (by omega)]; simp [List.getD_eq_getElem?_getD, List.getElem?_eq_getElem (show j < locs.length by omega)]
  have htc' : ∀ j, j < k + m → w.cell? ⟨tb, to + j, none⟩ = some (.int .i64 (target.getD j 0)) := fun j hj => by
    rw [htc j (by omega)]; simp [List.getD_eq_getElem?_getD, List.getElem?_eq_getElem (show j < target.length by omega)]
  obtain ⟨n, hn⟩ : ∃ n, k + m = n := ⟨_, rfl⟩
  have hni : (k : Int) + (m : Int) = (n : Int) := by omega
  rw [hn] at hl ht hkm hlc' htc' h0 ⊢
  rw [hl] at hL ⊢
  rw [ht] at hT ⊢
  obtain ⟨W, hW⟩ : ∃ W, w.alloc (.cells #[.int .i64 33, .int .i64 0, .slice (some ⟨lb, lo, none⟩) n lc] 67) = W := ⟨_, rfl⟩
  have hbW : Below w.heap.size w W := by rw [← hW]; exact (Below.refl _ _).alloc (Nat.le_refl _) _
  have hcW : W.heap[w.heap.size]? = some (.cells #[.int .i64 33, .int .i64 0, .slice (some ⟨lb, lo, none⟩) n lc] 67 (0, 0)) := by rw [← hW]; exact heap_alloc_new _ _
  have hlW := blk_lt hcW
  have hc1 := recclone_any 33 0 (hL.below hbW) (by omega) (by omega)
  have c0 : W.cell? ⟨w.heap.size, 0, none⟩ = some (.int .i64 33) := blk_cell hcW rfl
  have c1 : W.cell? ⟨w.heap.size, 1, none⟩ = some (.int .i64 0) := blk_cell hcW rfl
  have c2 : W.cell? ⟨w.heap.size, 2, none⟩ = some (.slice (some ⟨lb, lo, none⟩) n lc) := blk_cell hcW rfl
  have hTW := hT.below hbW
  have HL := Lib.hid hl; have HT := Lib.hid ht; have HLC := Lib.hid hlc'; have HTC := Lib.hid htc'; have HBW := Lib.hid hbW; have HCW := Lib.hid hcW; have HC1 := Lib.hid hc1; have HTW := Lib.hid hTW
  clear hL hT hl ht hlc htc hlc' htc' hbW hcW hc1 hTW
  unfold stripeV at *
  go_enter Try.func53, Try.ntmps53
  go_wp2_with (fail)
  refine HC1.out.mono ?_
  rintro e w1 ⟨b1, rfl, hN1, hb1⟩
  have hc2 := clone93 (HTW.out.below hb1) (by rw [HT.out]; omega) (by rw [HT.out]; omega)
  rw [HT.out] at hc2
  rw [HL.out] at hN1 ⊢
  have HC2 := Lib.hid hc2; have HN1 := Lib.hid hN1; have HB1 := Lib.hid hb1
  clear hc2 hN1 hb1 HC1 c0 c1 c2
  go_wp2_with (fail)
  refine HC2.out.mono ?_
  rintro e w2 ⟨b2, c2, rfl, hcc2, hN2, hb2⟩
  have hbw1 := HBW.out.trans (HB1.out.mono HBW.out.size)
  have hbw2 := hbw1.trans (hb2.mono hbw1.size)
  have hs1 := HB1.out.size
  have hs2 := hb2.size
  have hsW := HBW.out.size
  obtain ⟨X, hX⟩ : ∃ X, w2.alloc (.cells #[.int .i64 k, .int .i64 m, .int .i64 33, .int .i64 0, .slice (some ⟨b1, 0, none⟩) n n, .slice (some ⟨b2, 0, none⟩) n c2, .slice none 0 0, .int .i64 0, .int .i64 0] 122) = X := ⟨_, rfl⟩
  have hbX : Below w2.heap.size w2 X := by rw [← hX]; exact (Below.refl _ _).alloc (Nat.le_refl _) _
  have hxX : X.heap[w2.heap.size]? = some (.cells #[.int .i64 k, .int .i64 m, .int .i64 33, .int .i64 0, .slice (some ⟨b1, 0, none⟩) n n, .slice (some ⟨b2, 0, none⟩) n c2, .slice none 0 0, .int .i64 0, .int .i64 0] 122 (0, 0)) := by rw [← hX]; exact heap_alloc_new _ _
  have hsX : X.heap.size = w2.heap.size + 1 := by rw [← hX]; simp
  have hbwX := hbw2.trans (hbX.mono hbw2.size)
  have hcX := (hbX.block _ (Nat.lt_of_lt_of_le (Nat.lt_of_lt_of_le hlW hs1) hs2)).trans ((hb2.block _ (Nat.lt_of_lt_of_le hlW hs1)).trans ((HB1.out.block _ hlW).trans HCW.out))
  have hlX := blk_lt hcX
  have hN1X := (HN1.out.below hb2).below hbX
  have hN2X := hN2.below hbX
  obtain ⟨xb, hxb⟩ : ∃ xb, w2.heap.size = xb := ⟨_, rfl⟩
  rw [hxb] at hxX hsX hbX
  have hxl : w.heap.size < xb := by omega
  have hI0 : NewI X xb k m (.slice (some ⟨b1, 0, none⟩) n n) (.slice (some ⟨b2, 0, none⟩) n c2) locs target 0 X := ⟨.slice none 0 0, hxX, World.ownsRow_nil _ _ _ 1, Mod.refl _ _⟩
  have hb1x : Ns X (fun b => Fresh w b ∧ b < xb) (.slice (some ⟨b1, 0, none⟩) n n) locs := by
    have h1 : b1 < w1.heap.size := by
      obtain ⟨_, _, e, _, _, h3⟩ := HN1.out
      injection e with e _ _
      rcases h3 with ⟨h3, _⟩ | ⟨b, o, h3, _, h4, _⟩
      · rw [h3] at e; cases e
      · rw [h3] at e; injection e with e; injection e with e; omega
    obtain ⟨ao, c, e, h1', h2', h3⟩ := hN1X
    refine ⟨ao, c, e, h1', h2', ?_⟩
    rcases h3 with h3 | ⟨b, o, h3, h4, h5, h6⟩
    · exact .inl h3
    · injection e with e _ _
      rw [h3] at e; injection e with e; injection e with e e'
      exact .inr ⟨b, o, h3, ⟨Nat.le_trans hsW h4, by omega⟩, h5, h6⟩
  have hb2x : Ns X (fun b => Fresh w b ∧ b < xb) (.slice (some ⟨b2, 0, none⟩) n c2) target := by
    have h1 : b2 < w2.heap.size := by
      obtain ⟨_, _, e, _, _, h3⟩ := hN2
      injection e with e _ _
      rcases h3 with ⟨h3, _⟩ | ⟨b, o, h3, _, h4, _⟩
      · rw [h3] at e; cases e
      · rw [h3] at e; injection e with e; injection e with e; omega
    obtain ⟨ao, c, e, h1', h2', h3⟩ := hN2X
    refine ⟨ao, c, e, h1', h2', ?_⟩
    rcases h3 with h3 | ⟨b, o, h3, h4, h5, h6⟩
    · exact .inl h3
    · injection e with e _ _
      rw [h3] at e; injection e with e; injection e with e e'
      exact .inr ⟨b, o, h3, ⟨Nat.le_trans (Nat.le_trans hsW hs1) h4, by omega⟩, h5, h6⟩
  have HI0 := Lib.hid hI0; have HCX := Lib.hid hcX; have HBX := Lib.hid hbwX; have HL1 := Lib.hid hb1x; have HT1 := Lib.hid hb2x; have HSX := Lib.hid hsX
  have hxlX : xb < X.heap.size := by omega
  clear hI0 hcX hbwX hb1x hb2x hN1X hN2X hbX hxX HC2 HN1 HB1 hN2 hb2 hbw1 hbw2 HCW hsX
  go_wp2_with (fail)
  clear hX
  go_loopw [37] (fun i wr => ∃ j : Nat, j ≤ n ∧ i = .int .i64 j ∧ NewI X xb k m (.slice (some ⟨b1, 0, none⟩) n n) (.slice (some ⟨b2, 0, none⟩) n c2) locs target j wr) (fun i _ => n - (intOf i).toNat)
  case atStart => exact ⟨0, by omega, rfl, HI0.out⟩
  case round =>
    obtain ⟨j, hj, rfl, hI⟩ := hrel
    by_cases hlt : j < n
    · obtain ⟨pv, h1, ho, hm⟩ := hI
      have hbc := blk_mod hm HCX.out (fun h => by rcases h with h | h <;> omega)
      have s2 : wr.cell? ⟨w.heap.size, 2, none⟩ = some (.slice (some ⟨lb, lo, none⟩) n lc) := blk_cell hbc rfl
      have hw0 : ∀ p : Addr, p.block < w.heap.size → wr.cell? p = w.cell? p := fun p hp => (hm.cell (p := p) (Nat.lt_trans (Nat.lt_trans hp hxl) hxlX) (fun h => by rcases h with h | h <;> omega)).trans (HBX.out.cell hp)
      have x1 := (hw0 ⟨lb, lo + j, none⟩ hlb).trans (HLC.out j hlt)
      have x2 := (hw0 ⟨tb, to + j, none⟩ htb).trans (HTC.out j hlt)
      have hpl := placesK_len locs target j
      by_cases he : locs.getD j 0 = target.getD j 0
      · have HR := Lib.hid (NewI.same he ⟨pv, h1, ho, hm⟩)
        rw [he] at x1
        clear h1 ho hm hbc he hw0
        go_wp2
        go_roundw
        case rel => exact ⟨j + 1, by omega, by go_num, HR.out⟩
        case measure => simp [intOf]; omega
      · obtain ⟨pa, pn, pc, rfl⟩ := own_shape ho
        have hpn : pn = (placesK locs target j).length := own_len ho
        subst hpn
        have s6 : wr.cell? ⟨xb, 6, none⟩ = some (.slice pa (placesK locs target j).length pc) := blk_cell h1 rfl
        have hws : X.heap.size ≤ wr.heap.size := hm.size
        have HGO := Lib.hid (fun (w5 : World) (v' : Value) ho5 hg5 => NewI.next (w5 := w5) (v' := v') he h1 ho hm ho5 hg5)
        have HNE := Lib.hid he; have H1 := Lib.hid h1; have HO := Lib.hid ho; have HM := Lib.hid hm
        generalize locs.getD j 0 = dl at *
        generalize target.getD j 0 = dt at *
        clear h1 ho hm hbc hw0
        go_wp2_with (at_builtin; refine wpList_app_new rfl _ _ _ rfl E65 X.heap.size _ 1 HO.out rfl rfl rfl (by intro u hu; simp at hu; subst hu; rfl) (by omega) (by decide) hws ?_)
        intro v' w5 ho5 hg5 _
        have ho5' : w5.ownsRow X.heap.size 3 1 v' ((placesK locs target j).length + 1) ((placesK locs target j).map (Value.int .i64) ++ [.int .i64 (j : Int)]) := by simpa using ho5
        have hm5 : Mod (fun b => (Value.slice pa (placesK locs target j).length pc).ownBlock = some b) wr w5 := (Mod.refl _ wr).grown hg5.by_ (fun k hk _ => hk)
        have q1 := blk_mod hm5 H1.out (own_not HO.out H1.out (by decide))
        have c5 : w5.cell? ⟨xb, 6, none⟩ = some (.slice pa (placesK locs target j).length pc) := blk_cell q1 rfl
        have f5 := blk_free q1 6
        have l5 := blk_lt q1
        have HRR := Lib.hid (HGO.out w5 v' ho5' hg5)
        obtain ⟨a6, n6, c6, rfl⟩ := own_shape ho5'
        clear ho5 ho5' hg5 hm5 q1 H1 HO HM s6
        go_wp2
        go_roundw
        case rel => exact ⟨j + 1, by omega, by go_num, HRR.out⟩
        case measure => simp [intOf]; omega
    · obtain rfl : j = n := by omega
      obtain ⟨pv, h1, ho, hm⟩ := hI
      have HM := Lib.hid hm
      have R : MoveAt wr (Fresh w) xb ⟨k, m, locs, target, placesK locs target j, 0, 0⟩ := ⟨_, _, pv, by show w.heap.size ≤ xb; omega, h1,
        (Sv.kept HL1.out hm (fun b hb h h' => by have h2 := HSX.out; rcases h' with h' | h' <;> omega)).mono (fun b _ h => ⟨h.1, by have := h.2; omega⟩),
        (Sv.kept HT1.out hm (fun b hb h h' => by have h2 := HSX.out; rcases h' with h' | h' <;> omega)).mono (fun b _ h => ⟨h.1, by have := h.2; omega⟩),
        Sv.of_own ho _ (fun g hg => ⟨by have := (ho.lt g hg).1; show w.heap.size ≤ g; omega, by have := (ho.lt g hg).1; omega⟩)⟩
      have hbf := below_mod HBX.out HBX.out.size hm (fun b h => by rcases h with h | h <;> omega)
      have HR := Lib.hid R; have HBF := Lib.hid hbf
      clear R hbf hm ho h1
      go_wp2
      go_ret
      exact ⟨xb, rfl, HR.out, HBF.out⟩
end Go.Proofs.Fl

import Derived.Test.YtficmalfoeaibaaXS0toS2
import Derived.Test.YtficmalfoeaibaaXS3
import Derived.Test.YtficmalfoeaibaaXM0toM1
namespace Go.Proofs.Fl
open Go.RowKit

/-- What laid answers: a pool, a stripe and a table; the pool has none of the blocks K that the others have. -/
def LaidP (w : World) (n : Nat) (pm : PM) (rows : List Bytes) (e : Ending) (w' : World) : Prop := ∃ pb lv tv K, e = .returned (.tuple #[.pointer (some ⟨pb, 0, none⟩), stripeV 33 0 lv, tv]) ∧ (∀ b, K b → w.heap.size ≤ b ∧ b < w'.heap.size) ∧
  PoolF w' w.heap.size K pb pm ∧ Ns w' K lv (locsM n n) ∧ Tb w' K tv rows ∧ Below w.heap.size w w'

theorem results_tct {P : Program} {fn : Func} {t p u : Tmp} {ty : TypeId} (h : fn.results = #[.tmp t, .cell p ty, .tmp u]) (tmps : Array Value) (w : World) (g : Nat) (t' : TypeId) (cs : Array Value) (fr : Nat × Nat) (d : TypeDesc) (x y : Value)
    (hx : tmps.getD t undef = x) (hp : tmps.getD p undef = .pointer (some ⟨g, 0, none⟩)) (hy : tmps.getD u undef = y) (hg : w.heap[g]? = some (.cells cs t' fr))
    (hu : P.underlying ty = some d) (hd : (match d with | .struct _ | .array _ _ => true | _ => false) = true) (hi : (P.info? ty).map (·.size) = some cs.size) :
    (results fn tmps).run P w = .ok (.tuple #[x, .agg cs, y]) w := by
  have hp' : tmps[p]?.getD undef = .pointer (some ⟨g, 0, none⟩) := by simpa using hp
  have hx' : tmps[t]?.getD undef = x := by simpa using hx
  have hy' : tmps[u]?.getD undef = y := by simpa using hy
  simp [results, h, hp', hx', hy', asAddr, run_loadVar_row w g t' ty cs fr d hg hu hd hi]
theorem Mod.set1 {w : World} (b o : Nat) (u : Value) : Mod (fun x => x = b) w (w.setCell ⟨b, o, none⟩ u) := (Mod.refl (fun x => x = b) w).setCell (p := ⟨b, o, none⟩) (fun _ => rfl) u
/-- laid's second loop: the pool, and the table of what is there. -/
def LaidJ (W : World) (B base : Nat) (K0 S9 : Nat → Prop) (pb : Nat) (t : PM × List Bytes) (hv : Value) (wr : World) : Prop :=
  TabO wr base S9 hv t.2 ∧ PoolF wr B (fun b => K0 b ∨ hv.ownBlock = some b) pb t.1 ∧ Mod (fun b => B ≤ b ∧ ¬ K0 b) W wr
theorem LaidJ.next {W w2 w5 : World} {B base : Nat} {K0 S9 : Nat → Prop} {pb : Nat} {pm : PM} {rows : List Bytes} {row : Bytes} {hv v' x : Value} {vs : List Value} (hBb : B ≤ base) (hK0 : ∀ b, K0 b → b < base)
    (hm : Mod (fun b => B ≤ b ∧ ¬ K0 b) W w2) (hP : PoolF w2 B (fun b => K0 b ∨ hv.ownBlock = some b) pb pm) (h1 : w2.ownsRow base tBytes 1 hv rows.length vs)
    (h2 : ∀ i, i < rows.length → Bs w2 (fun b => S9 b ∧ hv.ownBlock ≠ some b) (vs.getD i undef) (rows.getD i [])) (hx : Bs w2 (fun b => S9 b ∧ hv.ownBlock ≠ some b) x row)
    (ho : w5.ownsRow base tBytes 1 v' (rows.length + 1) (vs ++ [x])) (hg : Grew w2 hv w5 v') : LaidJ W B base K0 S9 pb (pm, rows ++ [row]) v' w5 := by
  have hm5 : Mod (fun b => hv.ownBlock = some b) w2 w5 := (Mod.refl _ w2).grown hg.by_ (fun k hk _ => hk)
  have hlt := h1.lt
  refine ⟨TabO.snoc h1 h2 hx ho hg, hP.move hm5 (fun b hb => .inr hb) (fun b hb => ?_), hm.trans (hm5.mono (T := fun b => B ≤ b ∧ ¬ K0 b) fun b _ hb => ?_)⟩
  · rcases hb with hb | hb
    · exact .inl (.inl hb)
    · rcases hg.blk with q | ⟨g, q, hq⟩
      · exact .inl (.inr (q ▸ hb))
      · rw [q] at hb; injection hb with hb; subst hb; exact .inr hq
  · have := (hlt b hb).1
    exact ⟨by omega, fun h => by have := hK0 b h; omega⟩
theorem bit_int (x : UInt8) (j : Nat) : ((x.toNat : Int) / 2 ^ j).tmod 2 = if bitB x j then 1 else 0 := by
  rw [tm2]
  unfold bitB
  rcases Nat.mod_two_eq_zero_or_one (x.toNat / 2 ^ j) with h | h <;> rw [h] <;> rfl
set_option maxHeartbeats 2000000 in
set_option maxRecDepth 100000 in
theorem laid_any {dv : Value} {d : Bytes} {w : World} (k m : Nat) (hk1 : 1 ≤ k) (hk : k ≤ 4) (hm : m ≤ 3) (hD : DatB w (fun b => b < w.heap.size) dv d) (hd : d.length ≤ 1000) (lack spoil : UInt8) :
    Calls Try.prog 45 #[.int .i64 k, .int .i64 m, dv, .int .u8 lack.toNat, .int .u8 spoil.toNat] w (LaidP w (k + m) (laidM k m d lack spoil).1 (laidM k m d lack spoil).2) := by
  have HD := Lib.hid hD
  obtain ⟨dao, dc, rfl⟩ := hD.shape
  clear hD
  go_enter Try.func45, Try.ntmps45
  go_wp2_with (fail)
  have hb0 : Below w.heap.size w (w.alloc (.cells #[.int .i64 0, .int .i64 0, .slice none 0 0] 67)) := (Below.refl _ _).alloc (Nat.le_refl _) _
  refine (PF_new (w.alloc (.cells #[.int .i64 0, .int .i64 0, .slice none 0 0] 67)) w.heap.size hb0.size (fun b => b = w.heap.size) (fun b h => by subst h; simp)).mono ?_
  rintro e w1 ⟨pb, rfl, hP, hb1⟩
  have hs1 := hb1.size
  rw [World.size_alloc] at hs1
  have hrb : w1.heap[w.heap.size]? = some (.cells #[.int .i64 0, .int .i64 0, .slice none 0 0] 67 (0, 0)) := (hb1.block w.heap.size (by simp)).trans (heap_alloc_new w _)
  have hbw1 : Below w.heap.size w w1 := hb0.trans (hb1.mono hb0.size)
  have hI0 : LaidI w w1.heap.size pb (k + m) 0 (w1.alloc (.cells #[.int .i64 33, .int .i64 0, .slice none 0 0] 67)) := by
    refine ⟨.slice none 0 0, hP.move (Mod.of_below (fun _ => False) ((Below.refl _ _).alloc (Nat.le_refl _) _)) (fun _ h => h.elim) (fun b hb => ?_), heap_alloc_new w1 _, blk_alloc hrb _, World.ownsRow_nil _ _ _ 1, hbw1.alloc hbw1.size _⟩
    rcases hb with hb | hb | hb
    · exact .inl hb
    · exact .inr (by omega)
    · cases hb
  have HI0 := Lib.hid hI0
  have hsbB : w1.heap.size ≠ w.heap.size := by omega
  have hsbL : w.heap.size ≤ w1.heap.size := by omega
  clear hP hrb hb1 hb0 hI0 hbw1
  go_wp2
  obtain ⟨wb, hwb⟩ : ∃ wb, w1.alloc (.cells #[.int .i64 33, .int .i64 0, .slice none 0 0] 67) = wb := ⟨_, rfl⟩
  rw [hwb] at HI0 ⊢
  clear hwb
  generalize w1.heap.size = sb at *
  clear hs1 w1
  go_loopw [15] (fun i wr => ∃ j : Nat, j ≤ k + m ∧ i = .int .i64 j ∧ LaidI w sb pb (k + m) j wr) (fun i _ => k + m - (intOf i).toNat)
  case atStart => exact ⟨0, by omega, rfl, HI0.out⟩
  case round =>
    obtain ⟨j, hj, rfl, hI⟩ := hrel
    obtain ⟨lv, hP, h1, h2, ho, hb⟩ := hI
    have hbs := hb.size
    have l1 := blk_lt h1
    have l2 := blk_lt h2
    obtain ⟨la, ln, lc, rfl⟩ := own_shape ho
    have e1 : ln = j := own_len ho
    subst e1
    by_cases hlt : ln < k + m
    · have hadd := PF_add hP (fun b hb => by
        rcases hb with hb | hb | hb
        · omega
        · omega
        · exact (ho.lt b hb).2) (by omega) 8 (by rw [drives_len]; omega)
      rw [drives_len] at hadd
      have HADD := Lib.hid hadd; have HO := Lib.hid ho; have H1 := Lib.hid h1; have H2 := Lib.hid h2; have HB := Lib.hid hb
      clear hP hadd ho h1 h2 hb
      go_wp2_with (fail)
      refine HADD.out.mono ?_
      rintro e w2 ⟨rfl, hP2, hm2⟩
      have h1' := blk_mod hm2 H1.out (fun h => h.2 (.inr (.inl rfl)))
      have h2' := blk_mod hm2 H2.out (fun h => h.2 (.inl rfl))
      have ho2 := own_mod HO.out hm2 (fun g hg h => h.2 (.inr (.inr hg)))
      have hb2 := below_mod HB.out hbs hm2 (fun b hb => hb.1)
      have hc2 : w2.cell? ⟨sb, 2, none⟩ = some (.slice la ln lc) := blk_cell h1' rfl
      have hb2s := hb2.size
      have l1' := blk_lt h1'
      have P2 := Lib.hid hP2; have H1' := Lib.hid h1'; have H2' := Lib.hid h2'; have HO2 := Lib.hid ho2; have HB2 := Lib.hid hb2
      clear hP2 h1' h2' ho2 hb2 hm2 HADD HO H1 H2 HB
      go_wp2_with (at_builtin; refine wpList_app_new rfl _ _ _ rfl E65 w.heap.size _ 1 HO2.out rfl rfl rfl (by intro u hu; simp at hu; subst hu; rfl) (by omega) (by decide) hb2s ?_)
      intro v' w5 hown5 hg5 _
      have hown5' : w5.ownsRow w.heap.size 3 1 v' (ln + 1) ((locsM (k + m) ln).map (Value.int .i64) ++ [.int .i64 (((k + m : Nat) : Int) - 1 - ln)]) := by simpa using hown5
      have hm5 : Mod (fun b => (Value.slice la ln lc).ownBlock = some b) w2 w5 := (Mod.refl _ w2).grown hg5.by_ (fun k hk _ => hk)
      have q1 := blk_mod hm5 H1'.out (own_not67 HO2.out H1'.out)
      have c5 : w5.cell? ⟨sb, 2, none⟩ = some (.slice la ln lc) := blk_cell q1 rfl
      have f5 := blk_free q1 2
      have l5 := blk_lt q1
      have R := Lib.hid (LaidI.next hsbB hsbL P2.out H1'.out H2'.out HO2.out HB2.out hown5' hg5)
      obtain ⟨a6, n6, c6, rfl⟩ := own_shape hown5'
      clear hown5 hown5' hg5 hm5 q1 P2 H1' H2' HO2 HB2 hc2
      go_wp2
      go_roundw
      case rel => exact ⟨ln + 1, by omega, by go_num, R.out⟩
      case measure => simp [intOf]; omega
    · obtain rfl : ln = k + m := by omega
      have HP := Lib.hid hP; have HO := Lib.hid ho; have H1 := Lib.hid h1; have H2 := Lib.hid h2; have HB := Lib.hid hb
      have hx0 : Below w.heap.size w (wr.alloc (.cells #[] tU8)) := hb.alloc hbs _
      have HD1 := Lib.hid ((HD.out.below hx0).mono (T := fun _ => True) (fun _ _ _ => trivial))
      have HL := Lib.hid (own_lit0 wr wr.heap.size tU8 1 (Nat.le_refl _))
      clear hP ho h1 h2 hb HI0 HD hx0
      go_wp2_with (at_builtin; refine wpList_app_dat rfl _ _ _ rfl E28 wr.heap.size HL.out HD1.out rfl rfl (by omega) (by simp) ?_)
      intro v1 w4 o1 g1
      have hb4 := Grew.new ((Below.refl wr.heap.size wr).alloc (Nat.le_refl _) (.cells #[] tU8)) (by simp) g1 (fun g hg => (HL.out.lt g hg).1)
      have hb4s := hb4.size
      obtain ⟨a1, n1, c1, rfl⟩ := own_shape o1
      have O1 := Lib.hid o1; have B4 := Lib.hid hb4
      clear o1 g1 hb4 HL HD1
      go_wp2_with (at_builtin; refine wpList_zeros rfl _ _ _ _ rfl E28 (k := .i64) (by rfl) wr.heap.size _ 32 O1.out rfl rfl rfl rfl (by omega) hb4s ?_)
      intro v2 w5 o2 g2
      have hb5 := Grew.new B4.out hb4s g2 (fun g hg => (O1.out.lt g hg).1)
      have hb5s := hb5.size
      have o2' : w5.ownsRow wr.heap.size tU8 1 v2 (d.length + 32) (u8s (d ++ List.replicate 32 0)) := by
        rw [u8s_append, ← u8s_zeros]
        simpa using o2
      have hB2 := Bs.of_own o2' (fun b => wr.heap.size ≤ b) (fun b hb _ => hb)
      obtain ⟨a2, c2, rfl⟩ := hB2.shape
      have hl2 : (d ++ List.replicate 32 (0 : UInt8)).length = d.length + 32 := by simp
      rw [hl2] at hB2
      have hc2 := hB2.cap
      have HB2 := Lib.hid (hB2.take (8 * k) (by omega))
      have hc3 : ¬ c2 = 0 := by omega
      obtain ⟨b2, q2, _, hq⟩ : ∃ b2 q2 c, (Value.slice a2 (d.length + 32) c2) = .slice (some ⟨b2, q2, none⟩) (d.length + 32) c := by
        obtain ⟨b, o, c, e, _⟩ := (by rw [← hl2] at hB2; exact hB2 : Bs w5 (fun b => wr.heap.size ≤ b) (.slice a2 (d ++ List.replicate 32 (0 : UInt8)).length c2) (d ++ List.replicate 32 (0 : UInt8))).cellAt (by simp)
        rw [hl2] at e
        exact ⟨b, o, c, e⟩
      have ea : a2 = some ⟨b2, q2, none⟩ := by injection hq
      subst ea
      have hfl := fullM_length k hk d
      have B5 := Lib.hid hb5
      clear o2 o2' g2 O1 B4 hB2 hq hb5
      rw [hl2]
      have HREN := Lib.hid (renc_any k m hk1 hk hm HB2.out hfl)
      clear HB2 hfl
      go_wp2_with (fail)
      refine HREN.out.mono ?_
      rintro e w9 ⟨v9, rfl, ht9, hb9⟩
      have hb9s := hb9.size
      have hbr9 : Below wr.heap.size wr w9 := B5.out.trans (hb9.mono hb5s)
      have hbr9s := hbr9.size
      have hrl : (rencM k m (fullM k d)).length = k + m := by unfold rencM; exact rtimesK_length _ _ _
      obtain ⟨all, hall⟩ : ∃ all, rencM k m (fullM k d) = all := ⟨_, rfl⟩
      have htb := ht9.toTb (T := fun b => w5.heap.size ≤ b) (fun _ h => h) (fun _ h => h)
      have hlm : laidM k m d lack spoil = laidK (k + m) all lack spoil (k + m) := by unfold laidM; rw [hall]
      change Tb w9 (fun b => w5.heap.size ≤ b) v9 (rencM k m (fullM k d)) at htb
      rw [hall] at htb hrl
      have HLM0 := hlm
      obtain ⟨K0, hK0⟩ : ∃ K0 : Nat → Prop, (fun b => b = w.heap.size ∨ b = sb ∨ (Value.slice la (k + m) lc).ownBlock = some b ∨ (w5.heap.size ≤ b ∧ b < w9.heap.size)) = K0 := ⟨_, rfl⟩
      have kB : K0 w.heap.size := by rw [← hK0]; exact .inl rfl
      have kS : K0 sb := by rw [← hK0]; exact .inr (.inl rfl)
      have kT : ∀ b, w5.heap.size ≤ b → b < w9.heap.size → K0 b := fun b h h' => by rw [← hK0]; exact .inr (.inr (.inr ⟨h, h'⟩))
      have kL : ∀ b, (Value.slice la (k + m) lc).ownBlock = some b → K0 b := fun b h => by rw [← hK0]; exact .inr (.inr (.inl h))
      have kb : ∀ b, K0 b → w.heap.size ≤ b ∧ b < w9.heap.size := fun b h => by
        rw [← hK0] at h
        rcases h with h | h | h | h
        · omega
        · omega
        · have := HO.out.lt b h; omega
        · omega
      obtain ⟨W, hW⟩ : ∃ W, w9.alloc (.cells #[] 28) = W := ⟨_, rfl⟩
      have hbW : Below w9.heap.size w9 W := by rw [← hW]; exact (Below.refl _ _).alloc (Nat.le_refl _) _
      have hWs : W.heap.size = w9.heap.size + 1 := by rw [← hW]; simp
      have hbrW := hbr9.trans (hbW.mono hbr9s)
      have hJ0 : LaidJ W w.heap.size w9.heap.size K0 (fun b => w5.heap.size ≤ b ∧ b < w9.heap.size) pb (laidK (k + m) all lack spoil 0) (.slice (some ⟨w9.heap.size, 0, none⟩) 0 0) W := by
        refine ⟨⟨[], ?_, fun i hi => absurd hi (Nat.not_lt_zero i)⟩, HP.out.move (Mod.of_below (fun _ => False) hbrW) (fun _ h => h.elim) (fun b hb => ?_), Mod.refl _ _⟩
        · rw [← hW]; exact own_lit0 w9 _ _ _ (Nat.le_refl _)
        · rcases hb with hb | hb
          · rw [← hK0] at hb
            rcases hb with hb | hb | hb | hb
            · exact .inl (.inl hb)
            · exact .inl (.inr (.inl hb))
            · exact .inl (.inr (.inr hb))
            · exact .inr (by omega)
          · have e : w9.heap.size = b := by injection hb
            exact .inr (by omega)
      have hNs : Ns W (fun b => K0 b ∧ b ≠ w.heap.size) (.slice la (k + m) lc) (locsM (k + m) (k + m)) := Sv.of_own (own_below HO.out hbrW) _ (fun g hg => ⟨kL g hg, fun e => own_not67 HO.out H2.out (e ▸ hg)⟩)
      have hTW : Tb W (fun b => w5.heap.size ≤ b ∧ b < w9.heap.size) v9 all := (htb.mono (T := fun b => w5.heap.size ≤ b ∧ b < w9.heap.size) (fun b hb h => ⟨h, hb⟩)).below hbW
      have hsbW := (hbrW.block sb l1).trans H1.out
      have hBW := (hbrW.block w.heap.size l2).trans H2.out
      have h8 : ∀ i, i < k + m → (all.getD i []).length = 8 := fun i hi => by rw [← hall]; exact renc_row k m _ hk1 (fullM_length k hk d) i hi
      have hcalm : ∀ i, i ≤ k + m → (laidK (k + m) all lack spoil i).1.calm := fun i hi => (laid_PH (k + m) (by omega) all (fun i => by
        by_cases h : i < k + m
        · rw [h8 i h]; decide
        · rw [List.getD_eq_getElem?_getD, List.getElem?_eq_none (by omega)]; simp) lack spoil i hi).calm
      obtain ⟨n, hn⟩ : ∃ n, k + m = n := ⟨_, rfl⟩
      have hni : (k : Int) + (m : Int) = (n : Int) := by omega
      obtain ⟨tb, to, tc, rfl, tS, tl, tcap, trow⟩ := hTW.cellAt (by omega)
      obtain ⟨lb, lo, lc', hle, lS, ll, _, lcell⟩ := Sv.cellAt hNs (by rw [List.length_map, locsM_length]; omega)
      have hla : la = some ⟨lb, lo, none⟩ := by injection hle
      subst hla
      have lcell' : ∀ j, j < n → W.cell? ⟨lb, lo + j, none⟩ = some (.int .i64 ((n : Int) - 1 - j)) := fun j hj => by
        rw [lcell j (by rw [List.length_map, locsM_length]; omega)]
        rw [hn]
        simp [List.getD_eq_getElem?_getD, locsM, hj]
      rw [hn] at h8 hcalm hrl hJ0 lcell hNs hle kL hsbW
      rw [hrl] at trow
      have HALL := Lib.hid hrl; have H8 := Lib.hid h8; have HC := Lib.hid hcalm; have TR := Lib.hid trow; have LC := Lib.hid lcell'; have HJ0 := Lib.hid hJ0; have KT := Lib.hid kT; have KB := Lib.hid kb
      have HN := Lib.hid hNs; have HT := Lib.hid hTW; have SW := Lib.hid hsbW; have BW := Lib.hid hBW; have BB := Lib.hid (hbrW); have KL := Lib.hid kL
      have HB0 := Lib.hid (HB.out.trans (hbrW.mono hbs))
      rw [hrl]
      clear ht9 hb9 hlm HREN B5 hrl h8 hcalm trow lcell lcell' hJ0 kT kb hNs hTW hsbW hBW hbrW kL HP HO H1 H2 HB htb hall hle hK0 hbr9 hbW
      go_wp2_with (fail)
      clear hW
      rw [hn] at HLM0
      have HLM := Lib.hid HLM0
      clear HLM0
      rw [hn]
      have HNN := Lib.hid hn
      clear hn hbr9s
      obtain ⟨wo, hwo⟩ : ∃ wo, wo = wr := ⟨_, rfl⟩
      subst hwo
      go_loopw [18, 19] (fun v i wx => ∃ j : Nat, j ≤ n ∧ i = .int .i64 j ∧ LaidJ W w.heap.size w9.heap.size K0 (fun b => w5.heap.size ≤ b ∧ b < w9.heap.size) pb (laidK n all lack spoil j) v wx) (fun _ i _ => n - (intOf i).toNat)
      case atStart => exact ⟨0, by omega, rfl, HJ0.out⟩
      case round =>
        obtain ⟨j, hj, rfl, ht, hP, hm9⟩ := hrel
        obtain ⟨vs, q1, q2⟩ := ht
        obtain ⟨ha, hn1, hc, rfl⟩ := own_shape q1
        have hl2 : (laidK n all lack spoil j).2.length = j := by rw [laid_have]; simp
        rw [hl2] at q1 q2
        have e1 : hn1 = j := own_len q1
        subst e1
        by_cases hlt : hn1 < n
        · obtain ⟨ra, rc, rcell, hrow⟩ := TR.out hn1 hlt
          have hr8 := H8.out hn1 hlt
          have hss := laidK_succ n all lack spoil hn1
          have hcj := HC.out hn1 hj
          generalize all.getD hn1 [] = row at *
          rw [hr8] at rcell hrow
          have hm9s := hm9.size
          have rcell' := (hm9.cell (p := ⟨tb, to + hn1, none⟩) tl (fun h => h.2 (KT.out tb tS.1 tS.2))).trans rcell
          have hrow' : Bs wr (fun b => (w5.heap.size ≤ b ∧ b < w9.heap.size) ∧ (Value.slice ha hn1 hc).ownBlock ≠ some b) (.slice ra 8 rc) row := (hrow.kept hm9 (fun b hb hs h => h.2 (KT.out b hs.1 hs.2))).mono (fun b _ h => ⟨h, fun e => by have := (q1.lt b e).1; omega⟩)
          have lcell' := (hm9.cell (p := ⟨lb, lo + hn1, none⟩) ll (fun h => h.2 lS.1)).trans (LC.out hn1 hlt)
          have hsx := blk_mod hm9 SW.out (fun h => h.2 kS)
          have scell : wr.cell? ⟨sb, 2, none⟩ = some (.slice (some ⟨lb, lo, none⟩) n lc) := blk_cell hsx rfl
          have hb1 := bit_int lack hn1
          have hb2 := bit_int spoil hn1
          have hcap3 : 8 ≤ rc := hrow'.cap
          have hcap4 : ¬ rc = 0 := by omega
          obtain ⟨rb, ro, hra⟩ : ∃ rb ro, ra = some ⟨rb, ro, none⟩ := by
            obtain ⟨b, o, c, e, _⟩ := (by rw [← hr8] at hrow'; exact hrow' : Bs wr _ (.slice ra row.length rc) row).cellAt (by omega)
            exact ⟨b, o, by injection e⟩
          subst hra
          generalize laidK n all lack spoil hn1 = t at *
          obtain ⟨pm, rows⟩ := t
          simp only at hl2 hP hss hcj q2
          have hBb : w.heap.size ≤ w9.heap.size := by omega
          have hxs : w9.heap.size ≤ wr.heap.size := by omega
          have HM9 := Lib.hid hm9; have HROW := Lib.hid hrow'; have HP9 := Lib.hid hP; have Q1 := Lib.hid q1; have Q2 := Lib.hid q2; have HCJ := Lib.hid hcj
          clear hm9 hrow hrow' rcell hsx hP q1 q2 hcj
          cases hbl : bitB lack hn1 with
          | true =>
            rw [hbl] at hb1 hss
            rw [if_pos rfl] at hb1 hss
            have HSS := Lib.hid hss
            have NB := Lib.hid (Bs.nil wr (fun b => (w5.heap.size ≤ b ∧ b < w9.heap.size) ∧ (Value.slice ha hn1 hc).ownBlock ≠ some b))
            clear hss hbl hb2
            go_wp2_with (at_builtin; refine wpList_app_new rfl _ _ _ rfl E59 w9.heap.size _ 1 Q1.out rfl rfl rfl (by intro u hu; simp at hu; subst hu; rfl) (by omega) (by decide) hxs ?_)
            intro v' w7 o7 g7 _
            have R := Lib.hid (LaidJ.next (row := []) hBb (fun b h => (KB.out b h).2) HM9.out HP9.out (by rw [hl2]; exact Q1.out) (by rw [hl2]; exact Q2.out) NB.out (by rw [hl2]; exact o7) g7)
            obtain ⟨a7, n7, c7, rfl⟩ := own_shape o7
            have e7 : n7 = hn1 + 1 := own_len o7
            subst e7
            clear o7 g7 HM9 HP9 Q1 Q2 NB HROW
            go_wp2
            go_roundw
            case rel => exact ⟨hn1 + 1, by omega, by go_num, by rw [HSS.out]; exact R.out⟩
            case measure => simp [intOf]; omega
          | false =>
            rw [hbl, if_neg (by decide)] at hb1 hss
            cases hbs' : bitB spoil hn1 with
            | true =>
              rw [hbs'] at hb2 hss
              rw [if_pos rfl] at hb2 hss
              have HSS := Lib.hid hss
              clear hss hbl hbs'
              have hst := PF_store HP9.out (fun b hb => by
                rcases hb with hb | hb
                · have := (KB.out b hb).2; omega
                · exact (Q1.out.lt b hb).2) (by omega) HCJ.out ((n : Int) - 1 - hn1) 33 hn1 (HROW.out.take 3 (by omega))
              have HST := Lib.hid hst
              clear hst
              go_wp2_with (fail)
              refine HST.out.mono ?_
              rintro e w2 ⟨rfl, hP2, hm2⟩
              have hm2s := hm2.size
              have P2 := Lib.hid hP2
              have O2 := Lib.hid (own_mod Q1.out hm2 (fun g hg h => h.2 (.inr hg)))
              have V2 := Lib.hid (fun i hi => (Q2.out i hi).kept hm2 (fun b _ hs h => h.2 (.inl (KT.out b hs.1.1 hs.1.2))))
              have X2 := Lib.hid (Bs.nil w2 (fun b => (w5.heap.size ≤ b ∧ b < w9.heap.size) ∧ (Value.slice ha hn1 hc).ownBlock ≠ some b))
              have M2 := Lib.hid (HM9.out.trans (hm2.mono (T := fun b => w.heap.size ≤ b ∧ ¬ K0 b) (fun b _ h => ⟨h.1, fun hk => h.2 (.inl hk)⟩)))
              clear hP2 hm2 HST HP9 HM9 Q1 Q2
              go_wp2_with (at_builtin; refine wpList_app_new rfl _ _ _ rfl E59 w9.heap.size _ 1 O2.out rfl rfl rfl (by intro u hu; simp at hu; subst hu; rfl) (by omega) (by decide) (by omega) ?_)
              intro v' w7 o7 g7 _
              have R := Lib.hid (LaidJ.next (row := []) hBb (fun b h => (KB.out b h).2) M2.out P2.out (by rw [hl2]; exact O2.out) (by rw [hl2]; exact V2.out) X2.out (by rw [hl2]; exact o7) g7)
              obtain ⟨a7, n7, c7, rfl⟩ := own_shape o7
              have e7 : n7 = hn1 + 1 := own_len o7
              subst e7
              clear o7 g7 M2 P2 O2 V2 X2 HROW
              go_wp2
              go_roundw
              case rel => exact ⟨hn1 + 1, by omega, by go_num, by rw [HSS.out]; exact R.out⟩
              case measure => simp [intOf]; omega
            | false =>
              rw [hbs', if_neg (by decide)] at hb2 hss
              have HSS := Lib.hid hss
              clear hss hbl hbs'
              have hst := PF_store HP9.out (fun b hb => by
                rcases hb with hb | hb
                · have := (KB.out b hb).2; omega
                · exact (Q1.out.lt b hb).2) (by omega) HCJ.out ((n : Int) - 1 - hn1) 33 hn1 (HROW.out)
              have HST := Lib.hid hst
              clear hst
              go_wp2_with (fail)
              refine HST.out.mono ?_
              rintro e w2 ⟨rfl, hP2, hm2⟩
              have hm2s := hm2.size
              have P2 := Lib.hid hP2
              have O2 := Lib.hid (own_mod Q1.out hm2 (fun g hg h => h.2 (.inr hg)))
              have V2 := Lib.hid (fun i hi => (Q2.out i hi).kept hm2 (fun b _ hs h => h.2 (.inl (KT.out b hs.1.1 hs.1.2))))
              have X2 := Lib.hid (HROW.out.kept hm2 (fun b _ hs h => h.2 (.inl (KT.out b hs.1.1 hs.1.2))))
              have M2 := Lib.hid (HM9.out.trans (hm2.mono (T := fun b => w.heap.size ≤ b ∧ ¬ K0 b) (fun b _ h => ⟨h.1, fun hk => h.2 (.inl hk)⟩)))
              clear hP2 hm2 HST HP9 HM9 Q1 Q2
              go_wp2_with (at_builtin; refine wpList_app_new rfl _ _ _ rfl E59 w9.heap.size _ 1 O2.out rfl rfl rfl (by intro u hu; simp at hu; subst hu; rfl) (by omega) (by decide) (by omega) ?_)
              intro v' w7 o7 g7 _
              have R := Lib.hid (LaidJ.next (row := row) hBb (fun b h => (KB.out b h).2) M2.out P2.out (by rw [hl2]; exact O2.out) (by rw [hl2]; exact V2.out) X2.out (by rw [hl2]; exact o7) g7)
              obtain ⟨a7, n7, c7, rfl⟩ := own_shape o7
              have e7 : n7 = hn1 + 1 := own_len o7
              subst e7
              clear o7 g7 M2 P2 O2 V2 X2 HROW
              go_wp2
              go_roundw
              case rel => exact ⟨hn1 + 1, by omega, by go_num, by rw [HSS.out]; exact R.out⟩
              case measure => simp [intOf]; omega
        · obtain rfl : hn1 = n := by omega
          have hsx := blk_mod hm9 SW.out (fun h => h.2 kS)
          have hbx := blk_mod hm9 BW.out (fun h => h.2 kB)
          have s0 : wr.cell? ⟨sb, 0, none⟩ = some (.int .i64 33) := blk_cell hsx rfl
          have s1 : wr.cell? ⟨sb, 1, none⟩ = some (.int .i64 0) := blk_cell hsx rfl
          have s2 : wr.cell? ⟨sb, 2, none⟩ = some (.slice (some ⟨lb, lo, none⟩) hn1 lc) := blk_cell hsx rfl
          have c0 : wr.cell? ⟨w.heap.size, 0, none⟩ = some (.int .i64 0) := blk_cell hbx rfl
          have c1 : wr.cell? ⟨w.heap.size, 1, none⟩ = some (.int .i64 0) := blk_cell hbx rfl
          have c2' : wr.cell? ⟨w.heap.size, 2, none⟩ = some (.slice none 0 0) := blk_cell hbx rfl
          have f0 := blk_free hbx 0
          have f1 := blk_free hbx 1
          have f2 := blk_free hbx 2
          have lbx := blk_lt hbx
          have HM9 := Lib.hid hm9; have HP9 := Lib.hid hP; have Q1 := Lib.hid q1; have Q2 := Lib.hid q2; have HBX := Lib.hid hbx
          clear hsx hbx hm9 hP q1 q2
          have hsbB' : w.heap.size ≠ sb := Ne.symm hsbB
          go_wp2
          go_region_law (go_simp)
          go_wp2
          (try simp only [Exit.inBlock, Exit.then])
          have hm3 : Mod (fun b => b = w.heap.size) wr ((((wr.setCell ⟨w.heap.size, 0, none⟩ (.int .i64 33)).setCell ⟨w.heap.size, 1, none⟩ (.int .i64 0)).setCell ⟨w.heap.size, 2, none⟩ (.slice (some ⟨lb, lo, none⟩) hn1 lc)).drew) :=
            (((Mod.set1 _ _ _).trans (Mod.set1 _ _ _)).trans (Mod.set1 _ _ _)).drew
          have hb3 : ((((wr.setCell ⟨w.heap.size, 0, none⟩ (.int .i64 33)).setCell ⟨w.heap.size, 1, none⟩ (.int .i64 0)).setCell ⟨w.heap.size, 2, none⟩ (.slice (some ⟨lb, lo, none⟩) hn1 lc)).drew).heap[w.heap.size]? = some (.cells #[.int .i64 33, .int .i64 0, .slice (some ⟨lb, lo, none⟩) hn1 lc] 67 (0, 0)) :=
            blk_set (blk_set (blk_set HBX.out 0 (.int .i64 33)) 1 (.int .i64 0)) 2 (.slice (some ⟨lb, lo, none⟩) hn1 lc)
          generalize ((((wr.setCell ⟨w.heap.size, 0, none⟩ (.int .i64 33)).setCell ⟨w.heap.size, 1, none⟩ (.int .i64 0)).setCell ⟨w.heap.size, 2, none⟩ (.slice (some ⟨lb, lo, none⟩) hn1 lc)).drew) = wz at *
          refine bodyPost_ret (results_tct rfl _ _ w.heap.size 67 _ (0, 0) _ (.pointer (some ⟨pb, 0, none⟩)) (.slice ha hn1 hc) rfl rfl rfl hb3 Try.underlying67 rfl (by kernel_rfl)) rfl ?_
          rw [HLM.out, HNN.out]
          have hs3 := hm3.size
          have hs9 := HM9.out.size
          refine ⟨pb, _, _, fun b => K0 b ∨ (Value.slice ha hn1 hc).ownBlock = some b, rfl, fun b hb => ?_, HP9.out.move hm3 (fun b hb => .inl (hb ▸ kB)) (fun b hb => .inl hb), ?_, ?_, ?_⟩
          · rcases hb with hb | hb
            · have := KB.out b hb; omega
            · have := Q1.out.lt b hb; omega
          · exact ((HN.out.kept HM9.out (fun b _ hs h => h.2 hs.1)).kept hm3 (fun b _ hs h => hs.2 h)).mono (fun b _ h => .inl h.1)
          · refine Tb.of_own _ (own_mod Q1.out hm3 (fun g hg e => by have := Q1.out.lt g hg; omega)) (fun g hg => .inr hg) (by rw [hl2]) (fun i hi => ?_)
            exact ((Q2.out i hi).kept hm3 (fun b _ hs h => by have := hs.1.1; omega)).mono (fun b _ h => .inl (KT.out b h.1.1 h.1.2))
          · exact below_mod (below_mod HB0.out (by omega) HM9.out (fun b h => h.1)) (by omega) hm3 (fun b h => by omega)
end Go.Proofs.Fl

import Derived.Test.YtficmalfoeaibaaXS6
import Derived.Test.YtficmalfoeaibaaXW0
namespace Go.Proofs.Fl
open Go.RowKit

theorem ofInt_u8 (z : Int) (h : (Lit.int .u8 z).wf = true) : z = ((UInt8.ofNat z.toNat).toNat : Int) := by
  obtain ⟨n, rfl, hn⟩ := wf_u8 h
  simp; omega
/-- What came in as bytes reads as some bytes. -/
theorem RowB.dat {w : World} {a : Option Addr} {len cap : Nat} (h : RowB w a len cap) : ∃ d : Bytes, d.length = len ∧ DatB w (fun b => b < w.heap.size) (.slice a len cap) d := by
  rcases h with ⟨rfl, rfl, rfl⟩ | ⟨x, zs, rfl, hl, hm, hz, hc, hw⟩
  · exact ⟨[], rfl, .inl (Bs.nil _ _)⟩
  · by_cases h0 : len = 0
    · subst h0; exact ⟨[], rfl, .inr ⟨rfl, x, cap, rfl⟩⟩
    · have hsp : x.spot = none ∧ x.block < w.heap.size := by
        have c := hc 0 (by omega)
        have e : x.add 0 = x := by simp [Addr.add]
        rw [e] at c
        unfold World.cell? at c
        cases hb : w.heap[x.block]? with
        | none => rw [hb] at c; cases c
        | some o =>
          refine ⟨?_, (Array.getElem?_eq_some_iff.1 hb).1⟩
          rw [hb] at c
          cases o with
          | cells cs t fr =>
            simp only at c
            by_cases hs : x.spot.isSome = true
            · rw [if_pos hs] at c; cases c
            · simpa using hs
          | _ => cases c
      obtain ⟨xb, xo, xs⟩ := x
      obtain ⟨rfl, hlt⟩ := hsp
      refine ⟨(zs.take len).map fun z => UInt8.ofNat z.toNat, by simp; omega, .inl ⟨some ⟨xb, xo, none⟩, cap, by simp; omega, by simp; omega, hm, .inr ⟨xb, xo, rfl, hlt, hlt, fun j hj => ?_⟩⟩⟩
      have hj' : j < len := by simp at hj; omega
      have hjz : j < zs.length := by omega
      have c := hc j hjz
      have ea : (⟨xb, xo, none⟩ : Addr).add j = ⟨xb, xo + j, none⟩ := by unfold Addr.add; split <;> simp_all
      rw [ea] at c
      rw [c]
      have e := ofInt_u8 (zs.getD j 0) (hw _ (by rw [List.getD_eq_getElem?_getD, List.getElem?_eq_getElem hjz, Option.getD_some]; exact List.getElem_mem _))
      have e2 : ((zs.take len).map fun z => UInt8.ofNat z.toNat).getD j 0 = UInt8.ofNat (zs.getD j 0).toNat := by
        simp [List.getD_eq_getElem?_getD, hj', List.getElem?_eq_getElem hjz]
      rw [e2, ← e]
theorem PF_flush {w : World} {B : Nat} {K : Nat → Prop} {pb : Nat} {m : PM} (h : PoolF w B K pb m) (hK : ∀ b, K b → b < w.heap.size) (hB : B ≤ w.heap.size) (hc : m.calm) (n : Int) :
    Calls Try.prog 26 #[.pointer (some ⟨pb, 0, none⟩), .int .i64 n] w fun e w' => e = .returned (.int .i64 (m.flush n).1) ∧ PoolF w' B K pb (m.flush n).2 ∧ Mod (fun b => B ≤ b ∧ ¬ K b) w w' := by
  obtain ⟨F, h1, h2⟩ := h
  refine (pool_flush h2 hc n).mono ?_
  rintro e w' ⟨rfl, hs⟩
  exact ⟨rfl, PoolF.step h1 hs hK hB⟩

/-! ### ShardWhole -/
def WhI (B : Nat) (K : Nat → Prop) (pb n : Nat) (ls : List (List Shd)) (x : UInt8) (W : World) (i : Nat) (wr : World) : Prop :=
  ∃ pm, PoolF wr B K pb pm ∧ PH pm ls ∧ (∀ q, q < n → if q < i ∧ bitB x q = true then Wet (pm.get q) else Dry (pm.get q)) ∧ Mod (fun b => B ≤ b ∧ ¬ K b) W wr
theorem whole_wet {m : PM} (n : Nat) (all : List Bytes) (h : PH m (laidL n all 0 0 n)) (x : UInt8) (hw : ∀ q, q < n → if q < n ∧ bitB x q = true then Wet (m.get q) else Dry (m.get q)) :
    wholeM m 33 (locsM n n) = (List.range n).all fun q => bitB x q := by
  have b0 : ∀ j, bitB 0 j = false := fun j => by unfold bitB; simp
  have hl := laidL_length n all 0 0 n
  have key : ∀ j, j < n → m.lasts ((locsM n n).getD j 0) 33 j = bitB x (n - 1 - j) := by
    intro j hj
    rw [locs_get n j hj, h.lasts _ (by rw [hl]; omega)]
    have := hw (n - 1 - j) (by omega)
    have hg := laidL_get n all 0 0 j hj
    rw [if_pos (b0 j)] at hg
    have hh := h.has (n - 1 - j) (by rw [hl]; omega)
    rw [hg] at hh
    cases hb : bitB x (n - 1 - j) with
    | true =>
      rw [if_pos ⟨by omega, hb⟩] at this
      exact Wet.lasts hh this (33, j, laidB all 0 j) (by simp)
    | false =>
      rw [if_neg (fun h => by rw [hb] at h; cases h.2)] at this
      exact this.lasts _ _
  unfold wholeM
  rw [locsM_length]
  rw [Bool.eq_iff_iff, List.all_eq_true, List.all_eq_true]
  constructor
  · intro h1 q hq
    have hq' := List.mem_range.1 hq
    have := h1 (n - 1 - q) (List.mem_range.2 (by omega))
    rw [key _ (by omega), show n - 1 - (n - 1 - q) = q by omega] at this
    exact this
  · intro h1 j hj
    have hj' := List.mem_range.1 hj
    rw [key j hj']
    exact h1 _ (List.mem_range.2 (by omega))
theorem bits15 (x : UInt8) : ((List.range 4).all fun q => bitB x q) = decide ((x.toNat : Int) % 16 = 15) := by
  have := u8_all (fun x => ((List.range 4).all fun q => bitB x q) == decide ((x.toNat : Int) % 16 = 15)) (by decide +kernel) x
  exact eq_of_beq this
end Go.Proofs.Fl

namespace Go.Proofs.Fl
open Go.RowKit

set_option maxHeartbeats 2000000 in
set_option maxRecDepth 100000 in
theorem whole_law {dv : Value} {d : Bytes} {w : World} (hD : DatB w (fun b => b < w.heap.size) dv d) (hd0 : d.length ≤ maxLen) (x : UInt8) :
    Calls Try.prog 9 #[dv, .int .u8 x.toNat] w fun e w' => e = .returned (.bool true) ∧ Below w.heap.size w w' := by
  have HD := Lib.hid hD
  obtain ⟨dao, dc, rfl⟩ := hD.shape
  clear hD
  have hd0i : (d.length : Int) ≤ 9223372036854775807 := by unfold maxLen at hd0; omega
  by_cases hbig : 100 < d.length
  · have hbi : (100 : Int) < (d.length : Int) := by omega
    clear hd0
    go_enter Try.func9, Try.ntmps9
    go_wp2_with (go_at_call 44; refine (answers15 _).mono ?_; rintro e w1 ⟨rfl, hb1⟩)
    go_ret
    exact ⟨rfl, hb1⟩
  · have hbi : ¬ (100 : Int) < (d.length : Int) := by omega
    clear hd0
    have b15 := Lib.hid (bits15 x)
    go_enter Try.func9, Try.ntmps9
    go_wp2_with (fail)
    refine (laid_any 2 2 (by decide) (by decide) (by decide) HD.out (by omega) 0 0).mono ?_
    rintro e w2 ⟨pb, lv, tv, K, rfl, hK, hP, hN, hT, hb⟩
    obtain ⟨lao, lc, rfl, _⟩ := hN.open_
    obtain ⟨tao, tc, rfl⟩ := hT.shape
    rw [show (2 + 2 : Nat) = 4 from rfl, locsM_length] at *
    have hPH := laidM_PH 2 2 (by decide) (by decide) (by decide) d 0 0
    have hdry : ∀ q, q < 4 → Dry ((laidM 2 2 d 0 0).1.get q) := fun q hq => by unfold laidM; exact laid_dry 4 _ 0 0 4 q hq
    generalize (laidM 2 2 d 0 0).1 = pm at *
    generalize rencM 2 2 (fullM 2 d) = all at *
    rw [show (2 + 2 : Nat) = 4 from rfl] at hPH
    have hbs := hb.size
    have HK := Lib.hid hK; have HP := Lib.hid hP; have HN := Lib.hid hN; have HB := Lib.hid hb; have HPH := Lib.hid hPH; have HDR := Lib.hid hdry
    clear hK hP hN hT hb hPH hdry HD
    unfold stripeV
    go_wp2_with (fail)
    obtain ⟨W, hW⟩ : ∃ W, w2.alloc (.cells #[.int .i64 33, .int .i64 0, .slice lao 4 lc] 67) = W := ⟨_, rfl⟩
    have hbW : Below w2.heap.size w2 W := by rw [← hW]; exact (Below.refl _ _).alloc (Nat.le_refl _) _
    have hcW : W.heap[w2.heap.size]? = some (.cells #[.int .i64 33, .int .i64 0, .slice lao 4 lc] 67 (0, 0)) := by rw [← hW]; exact heap_alloc_new _ _
    have hsW : W.heap.size = w2.heap.size + 1 := by rw [← hW]; simp
    obtain ⟨K', hK'⟩ : ∃ K' : Nat → Prop, (fun b => K b ∨ b = w2.heap.size) = K' := ⟨_, rfl⟩
    have hk1 : ∀ b, K b → K' b := fun b h => by rw [← hK']; exact .inl h
    have hk2 : K' w2.heap.size := by rw [← hK']; exact .inr rfl
    have hk3 : ∀ b, K' b → w.heap.size ≤ b ∧ b < W.heap.size := fun b h => by
      rw [← hK'] at h
      rcases h with h | h
      · have := HK.out b h; omega
      · omega
    have hI0 : WhI w.heap.size K' pb 4 (laidL 4 all 0 0 4) x W 0 W := ⟨pm, HP.out.move (Mod.of_below (fun _ => False) hbW) (fun _ h => h.elim) (fun b h => by
      rw [← hK'] at h
      rcases h with h | h
      · exact .inl h
      · exact .inr (by omega)), HPH.out, fun q hq => by rw [if_neg (fun h => by omega)]; exact HDR.out q hq, Mod.refl _ _⟩
    have HI0 := Lib.hid hI0
    have HNW := Lib.hid (Sv.mono (HN.out.below hbW) (T := K') (fun b _ h => hk1 b h))
    have HBW := Lib.hid (HB.out.trans (hbW.mono hbs)); have HCW := Lib.hid hcW; have HK3 := Lib.hid hk3
    rw [hW]
    clear hW hI0 hcW hk3 hK' HP HPH HDR HN HB HK hbW
    go_loopw [8] (fun i wr => ∃ j : Nat, j ≤ 4 ∧ i = .int .i64 j ∧ WhI w.heap.size K' pb 4 (laidL 4 all 0 0 4) x W j wr) (fun i _ => 4 - (intOf i).toNat)
    case atStart => exact ⟨0, by omega, rfl, HI0.out⟩
    case round =>
      obtain ⟨j, hj, rfl, pm, hP, hPH, hq, hm⟩ := hrel
      have hms := hm.size
      have hls := laidL_length 4 all 0 0 4
      by_cases hlt : j < 4
      · have hb1 := bit_int x j
        have HM := Lib.hid hm; have HQ := Lib.hid hq; have HP := Lib.hid hP; have HPH := Lib.hid hPH
        clear hm hq hP hPH
        cases hbx : bitB x j with
        | true =>
          rw [hbx, if_pos rfl] at hb1
          have hfl := PF_flush HP.out (fun b h => by have := (HK3.out b h).2; omega) (by omega) HPH.out.calm j
          have HFL := Lib.hid hfl; have HBX := Lib.hid hbx
          clear hfl hbx
          go_wp2_with (fail)
          refine HFL.out.mono ?_
          rintro e w3 ⟨rfl, hP3, hm3⟩
          obtain ⟨m', e1, hPH3, hget⟩ := HPH.out.flush j (by rw [hls]; exact hlt)
          rw [e1] at hP3 ⊢
          have R : WhI w.heap.size K' pb 4 (laidL 4 all 0 0 4) x W (j + 1) w3 := ⟨m', hP3, hPH3, fun q hq4 => by
            have hq := HQ.out q hq4
            rw [hget q]
            by_cases e : j = q
            · subst e
              rw [if_pos rfl, if_pos ⟨by omega, HBX.out⟩]
              exact ((HPH.out.has j (by rw [hls]; exact hlt)).keep).2
            · rw [if_neg e]
              by_cases hc : q < j ∧ bitB x q = true
              · rw [if_pos hc] at hq; rw [if_pos ⟨by omega, hc.2⟩]; exact hq
              · rw [if_neg hc] at hq; rw [if_neg (fun h => hc ⟨by omega, h.2⟩)]; exact hq, HM.out.trans hm3⟩
          have HR := Lib.hid R
          clear R hP3 hm3 hget hPH3 HM HQ HP HPH HFL
          go_wp2
          go_roundw
          case rel => exact ⟨j + 1, by omega, by go_num, HR.out⟩
          case measure => simp [intOf]; omega
        | false =>
          rw [hbx, if_neg (by decide)] at hb1
          have R : WhI w.heap.size K' pb 4 (laidL 4 all 0 0 4) x W (j + 1) wr := ⟨pm, HP.out, HPH.out, fun q hq4 => by
            have hq := HQ.out q hq4
            by_cases hc : q < j ∧ bitB x q = true
            · rw [if_pos hc] at hq; rw [if_pos ⟨by omega, hc.2⟩]; exact hq
            · rw [if_neg hc] at hq
              rw [if_neg (fun h => by
                by_cases e : q = j
                · subst e; rw [hbx] at h; cases h.2
                · exact hc ⟨by omega, h.2⟩)]; exact hq, HM.out⟩
          have HR := Lib.hid R
          clear R HM HQ HP HPH hbx
          go_wp2
          go_roundw
          case rel => exact ⟨j + 1, by omega, by go_num, HR.out⟩
          case measure => simp [intOf]; omega
      · obtain rfl : j = 4 := by omega
        have hwm := whole_wet 4 all hPH x hq
        rw [b15.out] at hwm
        have hbx := below_mod HBW.out (by omega) hm (fun b h => h.1)
        have hPL := hP.toL hbx
        have hc := blk_mod hm HCW.out (fun h => h.2 hk2)
        have hNr : Ns wr K' (.slice lao 4 lc) (locsM 4 4) := Sv.kept HNW.out hm (fun b _ h h' => h'.2 h)
        have HWM := Lib.hid hwm; have HPL := Lib.hid hPL; have HNR := Lib.hid hNr; have HBX := Lib.hid hbx; have HCR := Lib.hid hc
        have hcl := blk_lt hc
        clear hwm hPL hNr hbx hc hP hPH hq hm
        go_wp2_with (fail)
        refine (answers15 _).mono ?_
        rintro e w5 ⟨rfl, hb5⟩
        have hcr := (hb5.block _ hcl).trans HCR.out
        have c0 : w5.cell? ⟨w2.heap.size, 0, none⟩ = some (.int .i64 33) := blk_cell hcr rfl
        have c1 : w5.cell? ⟨w2.heap.size, 1, none⟩ = some (.int .i64 0) := blk_cell hcr rfl
        have c2 : w5.cell? ⟨w2.heap.size, 2, none⟩ = some (.slice lao 4 lc) := blk_cell hcr rfl
        have HP5 := Lib.hid (HPL.out.ext hb5); have HN5 := Lib.hid (HNR.out.below hb5); have HB5 := Lib.hid (HBX.out.trans (hb5.mono HBX.out.size))
        clear hb5 hcr HPL HNR HBX HCR
        by_cases h15 : (x.toNat : Int) % 16 = 15
        · have hwe := HWM.out
          rw [decide_eq_true h15] at hwe
          have HWE := Lib.hid hwe
          clear hwe HWM
          go_wp2_with (go_at_call 47; refine (whole_any HP5.out 33 0 _ (locsM 4 4) HN5.out (by decide)).mono ?_; rintro e w6 ⟨rfl, hb6⟩; rw [HWE.out])
          go_ret
          exact ⟨rfl, HB5.out.trans (hb6.mono HB5.out.size)⟩
        · have hwe := HWM.out
          rw [decide_eq_false h15] at hwe
          have HWE := Lib.hid hwe
          clear hwe HWM
          go_wp2_with (go_at_call 47; refine (whole_any HP5.out 33 0 _ (locsM 4 4) HN5.out (by decide)).mono ?_; rintro e w6 ⟨rfl, hb6⟩; rw [HWE.out])
          go_ret
          exact ⟨by show Ending.returned (.bool (!((x.toNat : Int) % 16 == 15))) = _; simp [h15], HB5.out.trans (hb6.mono HB5.out.size)⟩
end Go.Proofs.Fl

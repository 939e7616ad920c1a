import Derived.Test.YtficmalfoeaibaaXY2toY8
import Derived.Deep.RegionHeld3
namespace Go.Proofs.Fl
open Go.RowKit

def lsA (n : Nat) (all : List Bytes) (j : Nat) : DrvL := (List.range n).map (laidS n all) ++ List.replicate j (8, noS)
theorem lsA_len (n : Nat) (all : List Bytes) (j : Nat) : (lsA n all j).length = n + j := by simp [lsA]
theorem lsA_succ (n : Nat) (all : List Bytes) (j : Nat) : lsA n all (j + 1) = lsA n all j ++ [(clampN 8, noS)] := by
  unfold lsA
  rw [List.replicate_succ', ← List.append_assoc]; rfl
theorem lsA_get (n : Nat) (all : List Bytes) (i : Nat) (hi : i < n + 4) : (lsG n all []).getD i (0, noS) = (lsA n all 4).getD i (0, noS) := by
  rw [lsG_get _ _ _ _ hi]
  have e : drvG n all [] i = (8, baseG n all i) := by
    unfold drvG; rw [if_neg (fun h => by cases h.2.2)]
  rw [e]
  unfold lsA
  by_cases h : i < n
  · rw [List.getD_eq_getElem?_getD, List.getElem?_append_left (by simpa using h), ← List.getD_eq_getElem?_getD, range_getD _ _ _ _ h]
    unfold baseG laidS
    rw [if_pos h]
  · rw [List.getD_eq_getElem?_getD, List.getElem?_append_right (by simp; omega)]
    rw [List.getElem?_replicate, if_pos (by simp; omega)]
    unfold baseG
    rw [if_neg h]; rfl
def GoA (B : Nat) (K : Nat → Prop) (pb n : Nat) (all : List Bytes) (W : World) (j : Nat) (wr : World) : Prop := ∃ pm, PoolF wr B K pb pm ∧ PQ 8 pm (lsA n all j) ∧ Mod (fun b => B ≤ b ∧ ¬ K b) W wr
def GoT (base n : Nat) (turn : UInt8) (W : World) (v p : Value) (j : Nat) (wr : World) : Prop := wr.ownsRow base 3 1 v j ((tgG n turn j).map (Value.int .i64)) ∧ p = .int .i64 ((plG turn j).length : Nat) ∧ Below base W wr
theorem GoT.next {base n : Nat} {turn : UInt8} {W wr w5 : World} {v v' : Value} {j : Nat} (ho : wr.ownsRow base 3 1 v j ((tgG n turn j).map (Value.int .i64))) (hb : Below base W wr) (hs : base ≤ wr.heap.size) {d : Nat} (hd : tgN n turn j = d)
    (ho5 : w5.ownsRow base 3 1 v' (j + 1) ((tgG n turn j).map (Value.int .i64) ++ [.int .i64 (d : Int)])) (hg : Grew wr v w5 v') : w5.ownsRow base 3 1 v' (j + 1) ((tgG n turn (j + 1)).map (Value.int .i64)) ∧ Below base W w5 := by
  refine ⟨?_, Grew.new hb hs hg (fun g hg => (ho.lt g hg).1)⟩
  rw [tgG_succ, List.map_append, hd]; exact ho5
def GoB (B : Nat) (K : Nat → Prop) (pb xb k m : Nat) (d : Bytes) (turn : UInt8) (W : World) (s : Nat) (wr : World) : Prop :=
  ∃ pm, PoolF wr B K pb pm ∧ GI pm (k + m) (rencM k m (fullM k d)) turn s ∧ MoveAt wr K xb (vG k m turn s) ∧ Mod (fun b => b = xb ∨ (B ≤ b ∧ ¬ K b)) W wr

theorem pl_idx (turn : UInt8) (n a : Nat) (ha : a < n) (hb : bitB turn a = true) : ∃ r, r < (plG turn n).length ∧ (plG turn n).getD r 0 = a := by
  have hm : a ∈ plG turn n := (plG_mem turn n a).2 ⟨ha, hb⟩
  obtain ⟨r, hr, e⟩ := List.mem_iff_getElem.1 hm
  exact ⟨r, hr, by rw [List.getD_eq_getElem?_getD, List.getElem?_eq_getElem hr]; exact e⟩
/-- the end: what is at each target, and what lasts -/
theorem endG {pm : PM} {n : Nat} {all : List Bytes} {turn : UInt8} (h : GI pm n all turn (3 * (plG turn n).length)) (j : Nat) (hj : j < n) :
    pm.load ((tgN n turn j : Nat) : Int) 33 j = (all.getD j [], 0) ∧ (bitB turn j = true → pm.lasts ((tgN n turn j : Nat) : Int) 33 j = true) := by
  have hp := h.pq
  rw [take_all2 _ _ (by omega)] at hp
  unfold tgN
  by_cases hb : bitB turn j = true
  · rw [if_pos hb]
    refine ⟨loadG hp j hj ((plG_mem turn n j).2 ⟨hj, hb⟩), fun _ => ?_⟩
    obtain ⟨r, hr, e⟩ := pl_idx turn n j hj hb
    have := h.ls r hr (by omega)
    rw [e] at this
    exact this
  · rw [if_neg hb]
    exact ⟨srcG hp j hj, fun h => absurd h hb⟩
theorem vG_zero (k m : Nat) (turn : UInt8) : (⟨k, m, locsM (k + m) (k + m), tgG (k + m) turn (k + m), placesK (locsM (k + m) (k + m)) (tgG (k + m) turn (k + m)) (k + m), 0, 0⟩ : MV) = vG k m turn 0 := by
  unfold vG
  rw [placesG _ _ _ (Nat.le_refl _), Nat.zero_div, Nat.zero_mod]
theorem vG_end (k m : Nat) (turn : UInt8) : (vG k m turn (3 * (plG turn (k + m)).length)).phase = 3 ∨ (vG k m turn (3 * (plG turn (k + m)).length)).places = [] := by
  by_cases h : (plG turn (k + m)).length = 0
  · right
    show (plG turn (k + m)).map _ = []
    rw [List.eq_nil_of_length_eq_zero h]; rfl
  · left
    show 3 * (plG turn (k + m)).length / (plG turn (k + m)).length = 3
    exact Nat.mul_div_cancel _ (by omega)
set_option maxHeartbeats 400000 in
/-- a round of the move -/
theorem GoB.step {w : World} {B : Nat} {K : Nat → Prop} {pb xb k m : Nat} {d : Bytes} {turn : UInt8} {W : World} {s : Nat} (hk1 : 1 ≤ k) (hk4 : k ≤ 4) (hm3 : m ≤ 3) (h : GoB B K pb xb k m d turn W s w) (hK : ∀ b, K b → b < w.heap.size) (hB : B ≤ w.heap.size) (hs : s < 3 * (plG turn (k + m)).length) :
    Calls Try.prog 54 #[.pointer (some ⟨xb, 0, none⟩), .pointer (some ⟨pb, 0, none⟩)] w fun e w' => e = .returned (.tuple #[.bool false, .int .i64 0]) ∧ GoB B K pb xb k m d turn W (s + 1) w' := by
  obtain ⟨pm, hP, hgi, hM, hm⟩ := h
  obtain ⟨pm', e1, hq1⟩ := stepG hk1 hk4 hm3 hgi hs
  have hPn := plG_len turn (k + m)
  have hr : s % (plG turn (k + m)).length < (plG turn (k + m)).length := Nat.mod_lt _ (by omega)
  have hpin := pl_in turn (k + m) _ hr
  have hnx := next_step hP hK hB (hgi.pq.calm (by omega)) (vG_ok k m hk1 hk4 hm3 turn s) hM ((plG turn (k + m)).getD (s % (plG turn (k + m)).length) 0) hpin.1
    (by show s / (plG turn (k + m)).length < 3; exact Nat.div_lt_of_lt_mul (by rw [Nat.mul_comm]; exact hs)) (by show s % _ < ((plG turn (k + m)).map _).length; rw [List.length_map]; exact hr)
    (by show ((plG turn (k + m)).map fun a => ((a : Nat) : Int)).getD (s % (plG turn (k + m)).length) 0 = _
        simp [List.getD_eq_getElem?_getD, List.getElem?_eq_getElem hr]) (by show ((plG turn (k + m)).map _).length ≤ 1000; rw [List.length_map]; omega)
  rw [e1, if_pos rfl, vG_adv k m turn s (by omega)] at hnx
  refine hnx.mono ?_
  rintro e w' ⟨rfl, h1, h2, h3⟩
  exact ⟨rfl, pm', h1, hq1, h2, hm.trans h3⟩
theorem stripes_two {u : World} {S T : Nat → Prop} {b gb gO ca ca' cb : Nat} {l : List Int} (hl : l.length ≤ 1000) (h0 : 0 < l.length) (hA : Ns u S (.slice (some ⟨b, gO, none⟩) l.length ca) l) (hB : Ns u T (.slice (some ⟨gb, cb, none⟩) l.length ca') l) :
    Calls Try.prog 58 #[.slice (some ⟨u.heap.size, 0, none⟩) 1 1, .slice (some ⟨u.heap.size + 1, 0, none⟩) 1 1] ((u.alloc (.cells #[.int .i64 33, .int .i64 0, .slice (some ⟨b, gO, none⟩) l.length ca] 67)).alloc (.cells #[.int .i64 33, .int .i64 0, .slice (some ⟨gb, cb, none⟩) l.length ca'] 67))
      (fun e w' => e = .returned (.bool true) ∧ Below u.heap.size u w') ∧
    Calls Try.prog 58 #[.slice (some ⟨u.heap.size + 1, 0, none⟩) 1 1, .slice (some ⟨u.heap.size, 0, none⟩) 1 1] ((u.alloc (.cells #[.int .i64 33, .int .i64 0, .slice (some ⟨gb, cb, none⟩) l.length ca'] 67)).alloc (.cells #[.int .i64 33, .int .i64 0, .slice (some ⟨b, gO, none⟩) l.length ca] 67))
      (fun e w' => e = .returned (.bool true) ∧ Below u.heap.size u w') := by
  have key : ∀ (x y : Array Value), ∃ W : World, W = (u.alloc (.cells x 67)).alloc (.cells y 67) ∧ Below u.heap.size u W ∧ W.heap[u.heap.size]? = some (.cells x 67 (0, 0)) ∧ W.heap[u.heap.size + 1]? = some (.cells y 67 (0, 0)) := fun x y => by
    refine ⟨_, rfl, ((Below.refl _ u).alloc (Nat.le_refl _) _).alloc (by simp) _, blk_alloc (heap_alloc_new u _) _, ?_⟩
    have := heap_alloc_new (u.alloc (.cells x 67)) (.cells y 67)
    rw [World.size_alloc] at this
    exact this
  refine ⟨?_, ?_⟩
  · obtain ⟨W, hW, hb, h1, h2⟩ := key #[.int .i64 33, .int .i64 0, .slice (some ⟨b, gO, none⟩) l.length ca] #[.int .i64 33, .int .i64 0, .slice (some ⟨gb, cb, none⟩) l.length ca']
    rw [← hW]
    refine (stripes_same hl h0 (hA.below hb) (hB.below hb) (blk_cell h1 rfl) (blk_cell h1 rfl) (blk_cell h1 rfl) (blk_cell h2 rfl) (blk_cell h2 rfl) (blk_cell h2 rfl)).mono ?_
    rintro e w' ⟨rfl, q, rfl⟩
    exact ⟨rfl, below_drewN hb q⟩
  · obtain ⟨W, hW, hb, h1, h2⟩ := key #[.int .i64 33, .int .i64 0, .slice (some ⟨gb, cb, none⟩) l.length ca'] #[.int .i64 33, .int .i64 0, .slice (some ⟨b, gO, none⟩) l.length ca]
    rw [← hW]
    refine (stripes_same hl h0 (hA.below hb) (hB.below hb) (blk_cell h2 rfl) (blk_cell h2 rfl) (blk_cell h2 rfl) (blk_cell h1 rfl) (blk_cell h1 rfl) (blk_cell h1 rfl)).mono ?_
    rintro e w' ⟨rfl, q, rfl⟩
    exact ⟨rfl, below_drewN hb q⟩

theorem stripes_three {u : World} {S T : Nat → Prop} {b gb gO ca ca' cb sb : Nat} {l : List Int} (hl : l.length ≤ 1000) (h0 : 0 < l.length) (hA : Ns u S (.slice (some ⟨b, gO, none⟩) l.length ca) l) (hB : Ns u T (.slice (some ⟨gb, cb, none⟩) l.length ca') l)
    (hs : u.heap[sb]? = some (.cells #[.int .i64 33, .int .i64 0, .slice (some ⟨gb, cb, none⟩) l.length ca'] 67 (0, 0))) :
    Calls Try.prog 58 #[.slice (some ⟨u.heap.size, 0, none⟩) 1 1, .slice (some ⟨sb, 0, none⟩) 1 1] (u.alloc (.cells #[.int .i64 33, .int .i64 0, .slice (some ⟨b, gO, none⟩) l.length ca] 67)) (fun e w' => e = .returned (.bool true) ∧ Below u.heap.size u w') := by
  have hb : Below u.heap.size u (u.alloc (.cells #[.int .i64 33, .int .i64 0, .slice (some ⟨b, gO, none⟩) l.length ca] 67)) := (Below.refl _ u).alloc (Nat.le_refl _) _
  have h1 := heap_alloc_new u (.cells #[.int .i64 33, .int .i64 0, .slice (some ⟨b, gO, none⟩) l.length ca] 67)
  have h2 := (hb.block _ (blk_lt hs)).trans hs
  refine (stripes_same hl h0 (hA.below hb) (hB.below hb) (blk_cell h1 rfl) (blk_cell h1 rfl) (blk_cell h1 rfl) (blk_cell h2 rfl) (blk_cell h2 rfl) (blk_cell h2 rfl)).mono ?_
  rintro e w' ⟨rfl, q, rfl⟩
  exact ⟨rfl, below_drewN hb q⟩

set_option maxHeartbeats 8000000 in
set_option maxRecDepth 100000 in
theorem goes_law {dv : Value} {d : Bytes} {w : World} (hD : DatB w (fun b => b < w.heap.size) dv d) (hd0 : d.length ≤ maxLen) (xk xm turn : UInt8) :
    Calls Try.prog 16 #[.int .u8 xk.toNat, .int .u8 xm.toNat, dv, .int .u8 turn.toNat] w fun e w' => e = .returned (.bool true) ∧ Below w.heap.size w w' := by
  have HD := Lib.hid hD
  obtain ⟨dao, dc, rfl⟩ := hD.shape
  clear hD
  have hd0i : (d.length : Int) ≤ 9223372036854775807 := by unfold maxLen at hd0; omega
  by_cases hbig : 100 < d.length
  · have hbi : (100 : Int) < (d.length : Int) := by omega
    clear hd0
    go_enter Try.func16, Try.ntmps16
    go_wp2_with (go_at_call 51; refine (answers18 _).mono ?_; rintro e w1 ⟨rfl, hb1⟩)
    go_ret
    exact ⟨rfl, hb1⟩
  have hbi : ¬ (100 : Int) < (d.length : Int) := by omega
  clear hd0
  have hx1 := xk.toNat_lt; have hx2 := xm.toNat_lt; have hx3 := turn.toNat_lt
  obtain ⟨q, hq⟩ : ∃ q, xk.toNat % 4 = q := ⟨_, rfl⟩
  obtain ⟨k, hk⟩ : ∃ k, q + 1 = k := ⟨_, rfl⟩
  obtain ⟨m, hm⟩ : ∃ m, xm.toNat % 4 = m := ⟨_, rfl⟩
  have e1 : (xk.toNat : Int) % 4 = (q : Int) := by omega
  have e2 : (q : Int) + 1 = (k : Int) := by omega
  have e3 : (xm.toNat : Int) % 4 = (m : Int) := by omega
  have b1 : 1 ≤ k := by omega
  have b2 : k ≤ 4 := by omega
  have b3 : m ≤ 3 := by omega
  obtain ⟨n, hn⟩ : ∃ n, k + m = n := ⟨_, rfl⟩
  have hni : (k : Int) + (m : Int) = (n : Int) := by omega
  have hn1 : 1 ≤ n := by omega
  have hn7 : n ≤ 7 := by omega
  clear hq hk hm
  go_enter Try.func16, Try.ntmps16
  go_wp2_with (fail)
  refine (laid18_any k m b1 b2 b3 HD.out (by omega) 0 0).mono ?_
  rintro e w2 ⟨pb, lv, tv, K, rfl, hK, hP, hN, hT, hb⟩
  have hpq := laid_PQ k m b1 b2 b3 d
  have hrl := laidM_rows k m d 0 0
  have hrr : ∀ j, j < k + m → (laidM k m d 0 0).2.getD j [] = (rencM k m (fullM k d)).getD j [] := fun j hj => by
    rw [laidM_row k m d 0 0 j hj]; unfold haveB; rw [bit0]; rfl
  have h8 : ∀ a, a < k + m → ((rencM k m (fullM k d)).getD a []).length = 8 := fun a ha => renc_row k m _ b1 (fullM_length k b2 d) a ha
  generalize (laidM k m d 0 0).1 = pm at *
  generalize (laidM k m d 0 0).2 = hav at *
  obtain ⟨all, hall⟩ : ∃ all, rencM k m (fullM k d) = all := ⟨_, rfl⟩
  rw [hall] at hpq hrr h8
  have HALL := Lib.hid hall
  have HNN := Lib.hid hn
  clear hall
  rw [hn] at hpq hrr h8 hrl hN
  clear hn
  obtain ⟨lb, lo, lc, rfl, lS, hlbl, _, hlc⟩ := Sv.cellAt hN (by rw [List.length_map, locsM_length]; omega)
  rw [List.length_map, locsM_length] at *
  have hlc' : ∀ j, j < n → w2.cell? ⟨lb, lo + j, none⟩ = some (.int .i64 ((n - 1 - j : Nat) : Int)) := fun j hj => by
    rw [hlc j hj, ← locs_get n j hj]; simp [List.getD_eq_getElem?_getD, List.getElem?_eq_getElem (show j < (locsM n n).length by rw [locsM_length]; exact hj)]
  obtain ⟨tb, to, tc, rfl, tS, htb, _, htr⟩ := hT.cellAt (by omega)
  rw [hrl] at htr ⊢
  obtain ⟨W, hW⟩ : ∃ W, w2.alloc (.cells #[.int .i64 33, .int .i64 0, .slice (some ⟨lb, lo, none⟩) n lc] 67) = W := ⟨_, rfl⟩
  have hbW : Below w2.heap.size w2 W := by rw [← hW]; exact (Below.refl _ _).alloc (Nat.le_refl _) _
  have hcW : W.heap[w2.heap.size]? = some (.cells #[.int .i64 33, .int .i64 0, .slice (some ⟨lb, lo, none⟩) n lc] 67 (0, 0)) := by rw [← hW]; exact heap_alloc_new _ _
  have hbs := hb.size
  obtain ⟨K', hK'⟩ : ∃ K' : Nat → Prop, (fun b => K b ∨ (w2.heap.size ≤ b ∧ b < W.heap.size)) = K' := ⟨_, rfl⟩
  have hPW := hP.more hbW
  rw [hK'] at hPW
  have k3 : ∀ b, K' b → b < W.heap.size := fun b h => by
    rw [← hK'] at h
    have := hbW.size
    rcases h with h | h
    · have := hK b h; omega
    · omega
  have ka : ∀ b, K b → K' b := fun b h => by rw [← hK']; exact .inl h
  have k2 : K' w2.heap.size := by rw [← hK']; exact .inr ⟨Nat.le_refl _, blk_lt hcW⟩
  have hNW : Ns W K' (.slice (some ⟨lb, lo, none⟩) n lc) (locsM n n) := Sv.mono (hN.below hbW) (fun b _ h => ka b h)
  have hbw := hb.trans (hbW.mono hbs)
  have hls0 : lsA n all 0 = (List.range n).map (laidS n all) := by simp [lsA]
  have HI0 := Lib.hid (show GoA w.heap.size K' pb n all W 0 W from ⟨pm, hPW, by rw [hls0]; exact hpq, Mod.refl _ _⟩)
  have HCW := Lib.hid hcW; have HNW := Lib.hid hNW; have HBW := Lib.hid hbw; have HK3 := Lib.hid k3
  have HLC := Lib.hid (fun j (hj : j < n) => (hbW.cell (p := ⟨lb, lo + j, none⟩) hlbl).trans (hlc' j hj))
  have H8 := Lib.hid h8
  have HTR := Lib.hid (fun j (hj : j < n) => by
    obtain ⟨ra, rc, c1, c2⟩ := htr j hj
    rw [hrr j hj, h8 j hj] at c1 c2
    exact (⟨ra, rc, (hbW.cell (p := ⟨tb, to + j, none⟩) htb).trans c1, (c2.below hbW).mono (fun b _ h => ka b h)⟩ : ∃ ra rc, W.cell? ⟨tb, to + j, none⟩ = some (.slice ra 8 rc) ∧ Bs W K' (.slice ra 8 rc) (all.getD j [])))
  have hwW := hbw.size
  have htbW := Nat.lt_of_lt_of_le htb hbW.size
  have hlbW := Nat.lt_of_lt_of_le hlbl hbW.size
  have klb := ka _ lS
  have ktb := ka _ tS
  clear hcW hNW hbw k3 hK' hPW hbW hK hP hN hT hb hbs ka hlc hlc' htr hrr hrl hpq h8 hls0
  unfold stripeV
  go_wp2_with (fail)
  clear hW
  go_loopw [14] (fun i wr => ∃ j : Nat, j ≤ 4 ∧ i = .int .i64 j ∧ GoA w.heap.size K' pb n all W j wr) (fun i _ => 4 - (intOf i).toNat)
  case atStart => exact ⟨0, by omega, rfl, HI0.out⟩
  case round =>
    obtain ⟨j, hj, rfl, pm, hP, hpq, hm⟩ := hrel
    have hms := hm.size
    by_cases hlt : j < 4
    · have hadd := PF_add hP (fun b h => Nat.lt_of_lt_of_le (HK3.out b h) hms) (Nat.le_trans hwW hms) 8 (by rw [hpq.len, lsA_len]; omega)
      have hq1 := hpq.add 8
      rw [← lsA_succ] at hq1
      have HADD := Lib.hid hadd; have HQ1 := Lib.hid hq1; have HM := Lib.hid hm
      clear hadd hm hP hpq hq1
      go_wp2_with (fail)
      refine HADD.out.mono ?_
      rintro e w3 ⟨rfl, hP3, hm3⟩
      have HR := Lib.hid (show GoA w.heap.size K' pb n all W (j + 1) w3 from ⟨_, hP3, HQ1.out, HM.out.trans hm3⟩)
      clear hP3 hm3 HADD HM HQ1
      go_wp2
      go_roundw
      case rel => exact ⟨j + 1, by omega, by go_num, HR.out⟩
      case measure => simp [intOf]; omega
    · obtain rfl : j = 4 := by omega
      have hq4 : PQ 8 pm (lsG n all []) := hpq.congr (by rw [lsG_len, lsA_len]) (fun i hi => lsA_get n all i (by rw [lsA_len] at hi; exact hi))
      have hc3 := blk_mod hm HCW.out (fun h => h.2 k2)
      have hN3 : Ns wr K' (.slice (some ⟨lb, lo, none⟩) n lc) (locsM n n) := Sv.kept HNW.out hm (fun b _ h h' => h'.2 h)
      have hb3 := below_mod HBW.out hwW hm (fun b h => h.1)
      have hk3 : ∀ b, K' b → b < wr.heap.size := fun b h => Nat.lt_of_lt_of_le (HK3.out b h) hms
      have HC3 := Lib.hid hc3; have HN3 := Lib.hid hN3; have HB3 := Lib.hid hb3; have HP3 := Lib.hid hP; have HQ4 := Lib.hid hq4; have HKR := Lib.hid hk3
      have HL3 := Lib.hid (fun j (hj : j < n) => (hm.cell (p := ⟨lb, lo + j, none⟩) hlbW (fun h => h.2 klb)).trans (HLC.out j hj))
      have HT3 := Lib.hid (fun j (hj : j < n) => by
        obtain ⟨ra, rc, c1, c2⟩ := HTR.out j hj
        exact (⟨ra, rc, (hm.cell (p := ⟨tb, to + j, none⟩) htbW (fun h => h.2 ktb)).trans c1, (c2.kept hm (fun b _ h h' => h'.2 h)).mono (fun b hb h => ⟨h, hb⟩)⟩ : ∃ ra rc, wr.cell? ⟨tb, to + j, none⟩ = some (.slice ra 8 rc) ∧ Bs wr (fun b => K' b ∧ b < wr.heap.size) (.slice ra 8 rc) (all.getD j [])))
      have hlb3 := Nat.lt_of_lt_of_le hlbW hms
      have htb3 := Nat.lt_of_lt_of_le htbW hms
      clear hc3 hN3 hb3 hP hpq hm hk3 HCW HNW HBW HI0 HK3 hms HLC HTR hq4
      obtain ⟨w3, hw3⟩ : ∃ w3, w3 = wr := ⟨_, rfl⟩
      subst hw3
      rw [show ((4 : Nat) : Int) = 4 from rfl]
      go_wp2
      go_loopw [15, 16, 17] (fun v p i wr => ∃ j : Nat, j ≤ n ∧ i = .int .i64 j ∧ GoT w3.heap.size n turn w3 v p j wr) (fun _ _ i _ => n - (intOf i).toNat)
      case atStart => exact ⟨0, by omega, rfl, World.ownsRow_nil _ _ _ 1, rfl, Below.refl _ _⟩
      case round =>
        obtain ⟨j, hj, rfl, ho, rfl, hbr⟩ := hrel
        have hbs := hbr.size
        have hpl := plG_len turn j
        by_cases hlt : j < n
        · have hb1 := bit_int turn j
          have hps := plG_succ turn j
          have hcr := (hbr.block _ (blk_lt HC3.out)).trans HC3.out
          have s2 : wr.cell? ⟨w2.heap.size, 2, none⟩ = some (.slice (some ⟨lb, lo, none⟩) n lc) := blk_cell hcr rfl
          have x1 := (hbr.cell (p := ⟨lb, lo + j, none⟩) hlb3).trans (HL3.out j hlt)
          have hgn := fun d (hd : tgN n turn j = d) (w5 : World) (v' : Value) => GoT.next (w5 := w5) (v' := v') ho hbr hbs hd
          have htg : tgN n turn j = if bitB turn j = true then n - j else n - 1 - j := rfl
          obtain ⟨dj, hdj⟩ : ∃ dj, n - 1 - j = dj := ⟨_, rfl⟩
          have hdn : n - j = dj + 1 := by omega
          have hdl : dj < n := by omega
          rw [hdj] at x1 htg
          rw [hdn] at htg
          obtain ⟨va, vn, vc, rfl⟩ := own_shape ho
          have e1 : vn = j := own_len ho
          subst e1
          have HO := Lib.hid ho; have HGN := Lib.hid hgn; have HCR := Lib.hid hcr; have HBR := Lib.hid hbr; have X1 := Lib.hid x1
          have e4' : ((dj : Int) + 1) % ((n : Int) + 4) = (dj : Int) + 1 := Int.emod_eq_of_lt (by omega) (by omega)
          have e4 : ((dj : Int) + 1).tmod ((n : Int) + 4) = (dj : Int) + 1 := by rw [Int.tmod_eq_emod_of_nonneg (by omega), e4']
          clear ho hgn hcr hbr hdn hdj
          generalize plG turn vn = pl at *
          cases hbx : bitB turn vn with
          | true =>
            rw [hbx, if_pos rfl] at hb1 htg hps
            have HTG := Lib.hid htg; have HPS := Lib.hid hps
            clear hbx htg hps
            go_wp2_with (at_builtin; refine wpList_app_new rfl _ _ _ rfl E65 w3.heap.size _ 1 HO.out rfl rfl rfl (by intro u hu; simp at hu; subst hu; rfl) (by omega) (by decide) hbs ?_)
            intro v' w5 ho5 hg5 _
            have ho5' : w5.ownsRow w3.heap.size 3 1 v' (vn + 1) ((tgG n turn vn).map (Value.int .i64) ++ [.int .i64 ((dj + 1 : Nat) : Int)]) := by simpa using ho5
            have hR := HGN.out (dj + 1) HTG.out w5 v' ho5' hg5
            have hb5 := hR.2
            have hc5 := (hb5.block _ (blk_lt HC3.out)).trans HC3.out
            have s5 : w5.cell? ⟨w2.heap.size, 2, none⟩ = some (.slice (some ⟨lb, lo, none⟩) n lc) := blk_cell hc5 rfl
            have x5 := (hb5.cell (p := ⟨lb, lo + vn, none⟩) hlb3).trans ((HBR.out.cell (p := ⟨lb, lo + vn, none⟩) hlb3).symm.trans X1.out)
            have HR := Lib.hid hR
            obtain ⟨va', vn', vc', rfl⟩ := own_shape ho5'
            clear ho5 ho5' hg5 hR hb5 hc5 s2 x1 HGN HO
            go_wp2
            go_roundw
            case rel => exact ⟨vn + 1, by omega, by go_num, HR.out.1, by rw [HPS.out, List.length_append, List.length_singleton]; go_num, HR.out.2⟩
            case measure => simp [intOf]; omega
          | false =>
            rw [hbx, if_neg (by decide)] at hb1 htg hps
            have HTG := Lib.hid htg; have HPS := Lib.hid hps
            clear hbx htg hps
            go_wp2_with (at_builtin; refine wpList_app_new rfl _ _ _ rfl E65 w3.heap.size _ 1 HO.out rfl rfl rfl (by intro u hu; simp at hu; subst hu; rfl) (by omega) (by decide) hbs ?_)
            intro v' w5 ho5 hg5 _
            have ho5' : w5.ownsRow w3.heap.size 3 1 v' (vn + 1) ((tgG n turn vn).map (Value.int .i64) ++ [.int .i64 (dj : Int)]) := by simpa using ho5
            have hR := HGN.out dj HTG.out w5 v' ho5' hg5
            have hb5 := hR.2
            have hc5 := (hb5.block _ (blk_lt HC3.out)).trans HC3.out
            have s5 : w5.cell? ⟨w2.heap.size, 2, none⟩ = some (.slice (some ⟨lb, lo, none⟩) n lc) := blk_cell hc5 rfl
            have x5 := (hb5.cell (p := ⟨lb, lo + vn, none⟩) hlb3).trans ((HBR.out.cell (p := ⟨lb, lo + vn, none⟩) hlb3).symm.trans X1.out)
            have HR := Lib.hid hR
            obtain ⟨va', vn', vc', rfl⟩ := own_shape ho5'
            clear ho5 ho5' hg5 hR hb5 hc5 s2 x1 HGN HO
            go_wp2
            go_roundw
            case rel => exact ⟨vn + 1, by omega, by go_num, HR.out.1, by rw [HPS.out], HR.out.2⟩
            case measure => simp [intOf]; omega
        · obtain rfl : n = j := by omega
          have hT4 := Sv.of_own ho (fun b => w3.heap.size ≤ b) (fun g hg => (ho.lt g hg).1)
          obtain ⟨gb, gO, gc, rfl, hgS, hgb, _, hgcl⟩ := Sv.cellAt hT4 (by rw [List.length_map, tgG_len]; omega)
          rw [List.length_map, tgG_len] at hgcl hT4
          rw [List.length_map, tgG_len]
          have hgc : ∀ i, i < n → wr.cell? ⟨gb, gO + i, none⟩ = some (.int .i64 ((tgN n turn i : Nat) : Int)) := fun i hi => by
            rw [hgcl i hi, ← tgG_get n turn n i hi]; simp [List.getD_eq_getElem?_getD, List.getElem?_eq_getElem (show i < (tgG n turn n).length by rw [tgG_len]; exact hi)]
          have hc4 := (hbr.block _ (blk_lt HC3.out)).trans HC3.out
          have hN4 : Ns wr (fun b => K' b ∧ b < w3.heap.size) (.slice (some ⟨lb, lo, none⟩) n lc) (locsM n n) := Sv.mono (T := fun b => K' b ∧ b < w3.heap.size) (HN3.out.below hbr) (fun b hb h => ⟨h, by have := HKR.out b h; omega⟩)
          have hNEW := movenew_any (w := wr) k m (by omega) (by omega) (Sv.mono hN4 (T := fun _ => True) (fun _ _ _ => trivial)) (Sv.mono hT4 (T := fun _ => True) (fun _ _ _ => trivial)) (by rw [locsM_length, HNN.out]) (by rw [tgG_len, HNN.out])
          have hvz := vG_zero k m turn
          rw [HNN.out] at hNEW hvz
          rw [hvz] at hNEW
          have HNEW := Lib.hid hNEW
          obtain ⟨P, hPP⟩ : ∃ P, (plG turn n).length = P := ⟨_, rfl⟩
          have HC4 := Lib.hid hc4; have HGC := Lib.hid hgc; have HBR := Lib.hid hbr; have HT4 := Lib.hid hT4; have HPP := Lib.hid hPP; have HN4 := Lib.hid hN4
          rw [hPP] at hpl ⊢
          have s0 : wr.cell? ⟨w2.heap.size, 0, none⟩ = some (.int .i64 33) := blk_cell hc4 rfl
          have s1 : wr.cell? ⟨w2.heap.size, 1, none⟩ = some (.int .i64 0) := blk_cell hc4 rfl
          have s2 : wr.cell? ⟨w2.heap.size, 2, none⟩ = some (.slice (some ⟨lb, lo, none⟩) n lc) := blk_cell hc4 rfl
          clear hc4 hgc hgcl hbr hN4 hNEW hvz hT4 ho hPP
          unfold stripeV at HNEW
          obtain ⟨w4, hw4⟩ : ∃ w4, w4 = wr := ⟨_, rfl⟩
          subst hw4
          go_wp2_with (fail)
          refine HNEW.out.mono ?_
          rintro e w5 ⟨xb, rfl, hM, hb5⟩
          have hxb4 : w4.heap.size ≤ xb := by obtain ⟨_, _, _, h, _⟩ := hM; exact h
          have hb35 : Below w3.heap.size w3 w5 := HBR.out.trans (hb5.mono HBR.out.size)
          have hs45 := hb5.size
          have hA3 := HB3.out.size
          obtain ⟨K5, hK5⟩ : ∃ K5 : Nat → Prop, (fun b => K' b ∨ (w3.heap.size ≤ b ∧ b < w5.heap.size)) = K5 := ⟨_, rfl⟩
          have hP5 := HP3.out.more hb35
          rw [hK5] at hP5
          have k5 : ∀ b, K5 b → b < w5.heap.size := fun b h => by
            rw [← hK5] at h
            rcases h with h | h
            · have := HKR.out b h; omega
            · omega
          have k5a : ∀ b, K' b → K5 b := fun b h => by rw [← hK5]; exact .inl h
          have k5b : ∀ b, w3.heap.size ≤ b → b < w5.heap.size → K5 b := fun b h h' => by rw [← hK5]; exact .inr ⟨h, h'⟩
          have hM5 : MoveAt w5 K5 xb (vG k m turn 0) := MoveAt.mono hM (fun b hb h => k5b b (Nat.le_trans hbs h) hb)
          have hb05 := HB3.out.trans (hb35.mono HB3.out.size)
          have HGI := Lib.hid (show GI pm (k + m) (rencM k m (fullM k d)) turn 0 by
            rw [HNN.out, HALL.out]
            exact ⟨by simpa using HQ4.out, fun r _ h => by omega⟩)
          have hx2 : xb ≠ w2.heap.size := by have := blk_lt HC3.out; omega
          have hxl : xb ≠ lb := by omega
          have hxt : xb ≠ tb := by omega
          have hxg : xb ≠ gb := by omega
          have HI5 := Lib.hid (show GoB w.heap.size K5 pb xb k m d turn w5 0 w5 from ⟨pm, hP5, HGI.out, hM5, Mod.refl _ _⟩)
          have HC5 := Lib.hid ((hb5.block _ (blk_lt HC4.out)).trans HC4.out)
          have HL5 := Lib.hid (fun j (hj : j < n) => (hb35.cell (p := ⟨lb, lo + j, none⟩) hlb3).trans (HL3.out j hj))
          have HG5 := Lib.hid (fun j (hj : j < n) => (hb5.cell (p := ⟨gb, gO + j, none⟩) hgb).trans (HGC.out j hj))
          have HT5 := Lib.hid (fun j (hj : j < n) => by
            obtain ⟨ra, rc, c1, c2⟩ := HT3.out j hj
            exact (⟨ra, rc, (hb35.cell (p := ⟨tb, to + j, none⟩) htb3).trans c1, (c2.below hb35).mono (fun b _ h => ⟨k5a b h.1, h.2⟩)⟩ : ∃ ra rc, w5.cell? ⟨tb, to + j, none⟩ = some (.slice ra 8 rc) ∧ Bs w5 (fun b => K5 b ∧ b < w3.heap.size) (.slice ra 8 rc) (all.getD j [])))
          have hN5 : Ns w5 (fun b => K5 b ∧ b < w3.heap.size) (.slice (some ⟨lb, lo, none⟩) n lc) (locsM n n) := Sv.mono (HN4.out.below hb5) (fun b _ h => ⟨k5a b h.1, h.2⟩)
          have hg4 : Ns w4 (fun b => w3.heap.size ≤ b ∧ b < w4.heap.size) (.slice (some ⟨gb, gO, none⟩) n gc) (tgG n turn n) := Sv.mono HT4.out (fun b hb h => ⟨h, hb⟩)
          have hG5 : Ns w5 (fun b => K5 b ∧ b < w4.heap.size) (.slice (some ⟨gb, gO, none⟩) n gc) (tgG n turn n) := Sv.mono (hg4.below hb5) (fun b hb h => ⟨k5b b h.1 hb, h.2⟩)
          have HN5 := Lib.hid hN5; have HG5' := Lib.hid hG5; have HK5 := Lib.hid k5; have HB05 := Lib.hid hb05
          have klb5 := k5a _ klb
          have ktb5 := k5a _ ktb
          have k25 := k5a _ k2
          have kgb5 := k5b gb hgS (Nat.lt_of_lt_of_le hgb hs45)
          have hlb5 := Nat.lt_of_lt_of_le hlb3 hb35.size
          have htb5 := Nat.lt_of_lt_of_le htb3 hb35.size
          have hgb5 := Nat.lt_of_lt_of_le hgb hs45
          have hw5 := hb05.size
          have hxw : w.heap.size ≤ xb := by omega
          clear hM hb5 hb35 hK5 hP5 k5 k5a k5b hM5 hb05 hN5 hG5 HGI HP3 HQ4 HB3 HC3 HN3 HL3 HT3 HKR HBR HT4 HC4 HGC HN4 HNEW s0 s1 s2
          go_wp2
          go_loopw [20] (fun i wr => ∃ s : Nat, s ≤ 3 * P ∧ i = .int .i64 s ∧ GoB w.heap.size K5 pb xb k m d turn w5 s wr) (fun i _ => 3 * P - (intOf i).toNat)
          case atStart => exact ⟨0, by omega, rfl, HI5.out⟩
          case round =>
            obtain ⟨s, hsP, rfl, hI⟩ := hrel
            by_cases hlt : s < 3 * P
            · have hms : w5.heap.size ≤ wr.heap.size := by obtain ⟨_, _, _, _, h⟩ := hI; exact h.size
              have hst := GoB.step b1 b2 b3 hI (fun b h => Nat.lt_of_lt_of_le (HK5.out b h) hms) (Nat.le_trans hw5 hms) (by rw [HNN.out, HPP.out]; exact hlt)
              have HST := Lib.hid hst
              have hsi : (s : Int) < 3 * (P : Int) := by omega
              clear hst hI
              go_wp2_with (fail)
              refine HST.out.mono ?_
              rintro e w6 ⟨rfl, hI6⟩
              have HR := Lib.hid hI6
              clear hI6 HST
              go_wp2
              go_roundw
              case rel => exact ⟨s + 1, by omega, by go_num, HR.out⟩
              case measure => simp [intOf]; omega
            · obtain rfl : s = 3 * P := by omega
              obtain ⟨pm6, hP6, hgi, hM6, hm6⟩ := hI
              have hend : ∀ j, j < n → pm6.load ((tgN n turn j : Nat) : Int) 33 j = (all.getD j [], 0) ∧ (bitB turn j = true → pm6.lasts ((tgN n turn j : Nat) : Int) 33 j = true) := by
                rw [HNN.out, HALL.out, ← HPP.out] at hgi
                exact fun j hj => endG hgi j hj
              have hcalm := hgi.pq.calm (by omega)
              have hrdy : (vG k m turn (3 * P)).phase = 3 ∨ (vG k m turn (3 * P)).places = [] := by
                have := vG_end k m turn
                rw [HNN.out, HPP.out] at this
                exact this
              have hs56 := hm6.size
              have HC6 := Lib.hid (blk_mod hm6 HC5.out (fun h => h.elim (fun h => hx2 h.symm) (fun h => h.2 k25)))
              have HL6 := Lib.hid (fun j (hj : j < n) => (hm6.cell (p := ⟨lb, lo + j, none⟩) hlb5 (fun h => h.elim (fun h => hxl h.symm) (fun h => h.2 klb5))).trans (HL5.out j hj))
              have HG6 := Lib.hid (fun j (hj : j < n) => (hm6.cell (p := ⟨gb, gO + j, none⟩) hgb5 (fun h => h.elim (fun h => hxg h.symm) (fun h => h.2 kgb5))).trans (HG5.out j hj))
              have HT6 := Lib.hid (fun j (hj : j < n) => by
                obtain ⟨ra, rc, c1, c2⟩ := HT5.out j hj
                exact (⟨ra, rc, (hm6.cell (p := ⟨tb, to + j, none⟩) htb5 (fun h => h.elim (fun h => hxt h.symm) (fun h => h.2 ktb5))).trans c1, (c2.kept hm6 (fun b _ h h' => h'.elim (fun e => by omega) (fun h' => h'.2 h.1))).mono (fun _ _ _ => trivial)⟩ : ∃ ra rc, wr.cell? ⟨tb, to + j, none⟩ = some (.slice ra 8 rc) ∧ Bs wr (fun _ => True) (.slice ra 8 rc) (all.getD j [])))
              have hN6 : Ns wr (fun b => K5 b ∧ b < w3.heap.size) (.slice (some ⟨lb, lo, none⟩) n lc) (locsM n n) := Sv.kept HN5.out hm6 (fun b _ h h' => h'.elim (fun e => by omega) (fun h' => h'.2 h.1))
              have hG6 : Ns wr (fun b => K5 b ∧ b < w4.heap.size) (.slice (some ⟨gb, gO, none⟩) n gc) (tgG n turn n) := Sv.kept HG5'.out hm6 (fun b _ h h' => h'.elim (fun e => by omega) (fun h' => h'.2 h.1))
              have HN6 := Lib.hid hN6; have HG6' := Lib.hid hG6; have HP6 := Lib.hid hP6.toL0; have HM6 := Lib.hid hM6
              have HB06 := Lib.hid (below_mod HB05.out hw5 hm6 (fun b h => h.elim (fun h => by omega) (fun h => h.1)))
              have HEND := Lib.hid hend; have HCALM := Lib.hid hcalm; have HRDY := Lib.hid hrdy
              have hlb6 := Nat.lt_of_lt_of_le hlb5 hs56
              have htb6 := Nat.lt_of_lt_of_le htb5 hs56
              have hgb6 := Nat.lt_of_lt_of_le hgb5 hs56
              clear hN6 hG6 hP6 hM6 hgi hm6 hend hcalm hrdy HC5 HL5 HG5 HT5 HN5 HG5' HB05 HK5 HI5
              obtain ⟨w6, hw6⟩ : ∃ w6, w6 = wr := ⟨_, rfl⟩
              subst hw6
              rw [show ((3 * P : Nat) : Int) = 3 * (P : Int) from by omega]
              go_wp2
              go_loop [23] (fun i => ∃ j : Nat, j ≤ 2 ∧ i = .int .i64 j) (fun i => 2 - (intOf i).toNat)
              case atStart => exact ⟨0, by omega, rfl⟩
              case round =>
                obtain ⟨j, hj, rfl⟩ := hrel
                by_cases hlt : j < 2
                · have hnx := next_ready HM6.out (.pointer (some ⟨pb, 0, none⟩)) HRDY.out
                  have HNX := Lib.hid hnx
                  clear hnx
                  go_wp2_with (fail)
                  refine HNX.out.mono ?_
                  rintro e w7 ⟨rfl, rfl⟩
                  clear HNX
                  go_wp2
                  go_round
                  case rel => exact ⟨j + 1, by omega, by go_num⟩
                  case measure => simp [intOf]; omega
                · obtain rfl : j = 2 := by omega
                  rw [show ((2 : Nat) : Int) = 2 from rfl]
                  go_wp2
                  go_loopw [26] (fun i wr => ∃ j : Nat, j ≤ n ∧ i = .int .i64 j ∧ Below w6.heap.size w6 wr) (fun i _ => n - (intOf i).toNat)
                  case atStart => exact ⟨0, by omega, rfl, Below.refl _ _⟩
                  case round =>
                    obtain ⟨j, hj, rfl, hbr⟩ := hrel
                    by_cases hlt : j < n
                    · have hbc := (hbr.block _ (blk_lt HC6.out)).trans HC6.out
                      have g1 := (hbr.cell (p := ⟨gb, gO + j, none⟩) hgb6).trans (HG6.out j hlt)
                      obtain ⟨hld, hla⟩ := HEND.out j hlt
                      have hcl := L_load2 (HP6.out.ext hbr) HCALM.out ((tgN n turn j : Nat) : Int) 33 j
                      rw [hld] at hcl
                      obtain ⟨ra, rc, c1, hB⟩ := HT6.out j hlt
                      have x1 := (hbr.cell (p := ⟨tb, to + j, none⟩) htb6).trans c1
                      have l1 := (hbr.cell (p := ⟨lb, lo + j, none⟩) hlb6).trans (HL6.out j hlt)
                      have h8 := H8.out j hlt
                      have hx := hB.below hbr
                      have hbrs := hbr.size
                      have htr := Nat.lt_of_lt_of_le htb6 hbrs
                      have hlr := Nat.lt_of_lt_of_le hlb6 hbrs
                      have hgr := Nat.lt_of_lt_of_le hgb6 hbrs
                      have hlas : bitB turn j = true → ∀ u, Below wr.heap.size wr u → Calls Try.prog 27 #[.pointer (some ⟨pb, 0, none⟩), .int .i64 ((tgN n turn j : Nat) : Int), .int .i64 33, .int .i64 j] u fun e w' => e = .returned (.bool true) ∧ Below u.heap.size u w' := fun hb u hu => by
                        have hc := L_lasts2 ((HP6.out.ext hbr).ext hu) ((tgN n turn j : Nat) : Int) 33 j
                        rw [hla hb] at hc
                        exact hc
                      have htg : tgN n turn j = if bitB turn j = true then n - j else n - 1 - j := rfl
                      obtain ⟨dj, hdj⟩ : ∃ dj, n - 1 - j = dj := ⟨_, rfl⟩
                      have hdn : n - j = dj + 1 := by omega
                      rw [hdj] at l1 htg
                      rw [hdn] at htg
                      generalize tgN n turn j = tg at *
                      generalize all.getD j [] = row at *
                      have HCL := Lib.hid hcl; have HX := Lib.hid hx; have X1 := Lib.hid x1; have HBR := Lib.hid hbr; have H8' := Lib.hid h8; have L1 := Lib.hid l1; have G1 := Lib.hid g1; have HBC := Lib.hid hbc; have HLAS := Lib.hid hlas
                      have hjn : (j : Int) < (n : Int) := by omega
                      clear hcl hld c1 hB x1 hbc hbr h8 hx l1 hdj hdn hla hlas
                      cases hbx : bitB turn j with
                      | false =>
                        rw [hbx, if_neg (by decide)] at htg
                        subst htg
                        clear hbx HLAS
                        go_wp2_with (fail)
                        refine HCL.out.mono ?_
                        rintro e w10 ⟨v10, rfl, hv10, hb10⟩
                        obtain ⟨v10a, v10c, rfl⟩ := hv10.shape
                        have x10 := (hb10.cell (p := ⟨tb, to + j, none⟩) htr).trans X1.out
                        have l10 := (hb10.cell (p := ⟨lb, lo + j, none⟩) hlr).trans L1.out
                        have g10 := (hb10.cell (p := ⟨gb, gO + j, none⟩) hgr).trans G1.out
                        have c10 := (hb10.block _ (blk_lt HBC.out)).trans HBC.out
                        have s10 : w10.cell? ⟨w2.heap.size, 2, none⟩ = some (.slice (some ⟨lb, lo, none⟩) n lc) := blk_cell c10 rfl
                        have t1 : row.length ≤ 1000000 := by rw [H8'.out]; decide
                        have t2 : 0 < row.length := by rw [H8'.out]; decide
                        have HSQ := Lib.hid (fun q => Calls.quiet_of (same_quiet (w := w10.drewN q) (hv10.below (below_drewN (Below.refl _ w10) q)) ((HX.out.below hb10).below (below_drewN (Below.refl _ w10) q)) t1 t2))
                        have HB10 := Lib.hid (HBR.out.trans (hb10.mono HBR.out.size))
                        rw [H8'.out] at HSQ ⊢
                        clear hv10 hb10 HCL c10 t1 t2
                        go_wp2
                        go_quiet ((go_at_call 35; exact HSQ.out _))
                        go_wp2
                        go_roundw
                        case rel => exact ⟨j + 1, by omega, by go_num, below_drewN HB10.out _⟩
                        case measure => simp [intOf]; omega
                      | true =>
                        rw [hbx, if_pos rfl] at htg
                        subst htg
                        have HLAS2 := Lib.hid (HLAS.out hbx)
                        obtain ⟨ti, hti⟩ : ∃ ti : Int, ((dj + 1 : Nat) : Int) = ti := ⟨_, rfl⟩
                        have hne : (ti != (dj : Int)) = true := by simp; omega
                        have hne2 : ¬ ti = (dj : Int) := by omega
                        have HTI := Lib.hid hti
                        rw [hti] at HCL G1 HLAS2 g1
                        clear hbx HLAS hti
                        go_wp2_with (fail)
                        refine HCL.out.mono ?_
                        rintro e w10 ⟨v10, rfl, hv10, hb10⟩
                        obtain ⟨v10a, v10c, rfl⟩ := hv10.shape
                        have x10 := (hb10.cell (p := ⟨tb, to + j, none⟩) htr).trans X1.out
                        have l10 := (hb10.cell (p := ⟨lb, lo + j, none⟩) hlr).trans L1.out
                        have g10 := (hb10.cell (p := ⟨gb, gO + j, none⟩) hgr).trans G1.out
                        have c10 := (hb10.block _ (blk_lt HBC.out)).trans HBC.out
                        have s10 : w10.cell? ⟨w2.heap.size, 2, none⟩ = some (.slice (some ⟨lb, lo, none⟩) n lc) := blk_cell c10 rfl
                        have t1 : row.length ≤ 1000000 := by rw [H8'.out]; decide
                        have hs10 := hb10.size
                        have hkeep : ∀ u, Below w10.heap.size w10 u → u.cell? ⟨tb, to + j, none⟩ = some (.slice ra 8 rc) ∧ u.cell? ⟨gb, gO + j, none⟩ = some (.int .i64 ti) ∧ u.cell? ⟨w2.heap.size, 2, none⟩ = some (.slice (some ⟨lb, lo, none⟩) n lc) ∧ u.cell? ⟨lb, lo + j, none⟩ = some (.int .i64 (dj : Int)) := fun u hu =>
                          ⟨(hu.cell (p := ⟨tb, to + j, none⟩) (Nat.lt_of_lt_of_le htr hs10)).trans x10, (hu.cell (p := ⟨gb, gO + j, none⟩) (Nat.lt_of_lt_of_le hgr hs10)).trans g10, blk_cell ((hu.block _ (blk_lt c10)).trans c10) rfl, (hu.cell (p := ⟨lb, lo + j, none⟩) (Nat.lt_of_lt_of_le hlr hs10)).trans l10⟩
                        have hd10 : Below w10.heap.size w10 w10.drew := (Below.refl _ _).drew
                        have hsm := (same_same (w := w10.drew) (hv10.below hd10) ((HX.out.below hb10).below hd10) t1).mono (R' := fun e w' => e = .returned (.bool true) ∧ Below w10.heap.size w10 w' ∧ (w'.cell? ⟨tb, to + j, none⟩ = some (.slice ra 8 rc) ∧ w'.cell? ⟨gb, gO + j, none⟩ = some (.int .i64 ti) ∧ w'.cell? ⟨w2.heap.size, 2, none⟩ = some (.slice (some ⟨lb, lo, none⟩) n lc) ∧ w'.cell? ⟨lb, lo + j, none⟩ = some (.int .i64 (dj : Int)))) (by
                          rintro e w' ⟨rfl, hb⟩
                          have hb' := hd10.trans hb
                          exact ⟨rfl, hb', hkeep _ hb'⟩)
                        have hl2 : ∀ u, Below w10.heap.size w10 u → Calls Try.prog 27 #[.pointer (some ⟨pb, 0, none⟩), .int .i64 ti, .int .i64 33, .int .i64 j] u fun e w' => e = .returned (.bool true) ∧ Below w10.heap.size w10 w' ∧ (w'.cell? ⟨tb, to + j, none⟩ = some (.slice ra 8 rc) ∧ w'.cell? ⟨gb, gO + j, none⟩ = some (.int .i64 ti) ∧ w'.cell? ⟨w2.heap.size, 2, none⟩ = some (.slice (some ⟨lb, lo, none⟩) n lc) ∧ w'.cell? ⟨lb, lo + j, none⟩ = some (.int .i64 (dj : Int))) := fun u hu => by
                          refine (HLAS2.out u (hb10.trans (hu.mono hs10))).mono ?_
                          rintro e w' ⟨rfl, hb⟩
                          have hb' := hu.trans (hb.mono hu.size)
                          exact ⟨rfl, hb', hkeep _ hb'⟩
                        rw [H8'.out] at hsm ⊢
                        have HSM := Lib.hid hsm; have HL2 := Lib.hid hl2
                        have HB10 := Lib.hid (HBR.out.trans (hb10.mono HBR.out.size))
                        clear hv10 hb10 HCL c10 t1 hsm hl2 hkeep hd10 HLAS2
                        go_wp2
                        go_region_held3 (fun w' => w'.cell? ⟨tb, to + j, none⟩ = some (.slice ra 8 rc) ∧ w'.cell? ⟨gb, gO + j, none⟩ = some (.int .i64 ti) ∧ w'.cell? ⟨w2.heap.size, 2, none⟩ = some (.slice (some ⟨lb, lo, none⟩) n lc) ∧ w'.cell? ⟨lb, lo + j, none⟩ = some (.int .i64 (dj : Int))) (go_keep) ((first | (go_at_call 35; refine HSM.out.mono ?_; rintro e w11 ⟨rfl, hb11, q0, q1, q2, q3⟩) | (go_at_call 27; refine (HL2.out _ hb11).mono ?_; rintro e w12 ⟨rfl, hb12, q4, q5, q6, q7⟩)))
                        have HBZ := Lib.hid (HB10.out.trans (hb12.mono HB10.out.size))
                        clear hb11 hb12 q0 q1 q2 q3 q4 q5 q6 q7 HB10 HSM HL2
                        go_wp2
                        go_roundw
                        case rel => exact ⟨j + 1, by omega, by go_num, HBZ.out⟩
                        case measure => simp [intOf]; omega
                    · obtain rfl : n = j := by omega
                      have c7 := (hbr.block _ (blk_lt HC6.out)).trans HC6.out
                      have hM7 := HM6.out.below hbr
                      have hN7 : Ns wr (fun b => K5 b ∧ b < w3.heap.size) (.slice (some ⟨lb, lo, none⟩) n lc) (locsM n n) := HN6.out.below hbr
                      have hG7 : Ns wr (fun b => K5 b ∧ b < w4.heap.size) (.slice (some ⟨gb, gO, none⟩) n gc) (tgG n turn n) := HG6'.out.below hbr
                      have hB07 := HB06.out.trans (hbr.mono HB06.out.size)
                      have hcb := blk_lt c7
                      have hkeep : ∀ u, Below wr.heap.size wr u → u.cell? ⟨w2.heap.size, 0, none⟩ = some (.int .i64 33) ∧ u.cell? ⟨w2.heap.size, 1, none⟩ = some (.int .i64 0) ∧ u.cell? ⟨w2.heap.size, 2, none⟩ = some (.slice (some ⟨lb, lo, none⟩) n lc) := fun u hu => by
                        have := (hu.block _ hcb).trans c7
                        exact ⟨blk_cell this rfl, blk_cell this rfl, blk_cell this rfl⟩
                      obtain ⟨s0, s1, s2⟩ := hkeep wr (Below.refl _ _)
                      have hl1 : (vG k m turn (3 * P)).target = tgG n turn n := by show tgG (k + m) turn (k + m) = _; rw [HNN.out]
                      have hl2 : (vG k m turn (3 * P)).locs = locsM n n := by show locsM (k + m) (k + m) = _; rw [HNN.out]
                      have hd7 : Below wr.heap.size wr wr.drew := (Below.refl _ _).drew
                      have h51 := (answers18 wr.drew).mono (R' := fun e w' => e = .returned (.bool true) ∧ Below wr.heap.size wr w' ∧ (w'.cell? ⟨w2.heap.size, 0, none⟩ = some (.int .i64 33) ∧ w'.cell? ⟨w2.heap.size, 1, none⟩ = some (.int .i64 0) ∧ w'.cell? ⟨w2.heap.size, 2, none⟩ = some (.slice (some ⟨lb, lo, none⟩) n lc))) (by
                        rintro e w' ⟨rfl, hb⟩
                        have hb' := hd7.trans hb
                        exact ⟨rfl, hb', hkeep _ hb'⟩)
                      have h57 : ∀ u, Below wr.heap.size wr u → Calls Try.prog 57 #[.pointer (some ⟨xb, 0, none⟩)] u fun e w' => ∃ b, e = .returned (.slice (some ⟨b, 0, none⟩) n n) ∧ Ns w' (fun _ => True) (.slice (some ⟨b, 0, none⟩) n n) (tgG n turn n) ∧ Below wr.heap.size wr w' ∧ (w'.cell? ⟨w2.heap.size, 0, none⟩ = some (.int .i64 33) ∧ w'.cell? ⟨w2.heap.size, 1, none⟩ = some (.int .i64 0) ∧ w'.cell? ⟨w2.heap.size, 2, none⟩ = some (.slice (some ⟨lb, lo, none⟩) n lc)) := fun u hu => by
                        have h := target_any (hM7.below hu) (by rw [hl1, tgG_len]; omega) (by rw [hl1, tgG_len]; omega)
                        rw [hl1, tgG_len] at h
                        refine h.mono ?_
                        rintro e w' ⟨b, rfl, hn, hb⟩
                        have hb' := hu.trans (hb.mono hu.size)
                        exact ⟨b, rfl, Sv.mono hn (fun _ _ _ => trivial), hb', hkeep _ hb'⟩
                      have h56 : ∀ u b, Below wr.heap.size wr u → Ns u (fun _ => True) (.slice (some ⟨b, 0, none⟩) n n) (tgG n turn n) → Calls Try.prog 56 #[.slice (some ⟨b, 0, none⟩) n n, .slice (some ⟨gb, gO, none⟩) n gc] u fun e w' => e = .returned (.bool true) ∧ Below wr.heap.size wr w' ∧ (w'.cell? ⟨w2.heap.size, 0, none⟩ = some (.int .i64 33) ∧ w'.cell? ⟨w2.heap.size, 1, none⟩ = some (.int .i64 0) ∧ w'.cell? ⟨w2.heap.size, 2, none⟩ = some (.slice (some ⟨lb, lo, none⟩) n lc)) := fun u b hu hn => by
                        refine (ints_quiet hn (hG7.below hu) (by rw [tgG_len]; omega) (by rw [tgG_len]; omega)).mono ?_
                        rintro e w' ⟨rfl, q, rfl⟩
                        have hb' := below_drewN hu q
                        exact ⟨rfl, hb', hkeep _ hb'⟩
                      have h59 : ∀ u, Below wr.heap.size wr u → Calls Try.prog 59 #[.pointer (some ⟨xb, 0, none⟩)] u fun e w' => ∃ b, e = .returned (stripeV 33 0 (.slice (some ⟨b, 0, none⟩) n n)) ∧ Ns w' (fun _ => True) (.slice (some ⟨b, 0, none⟩) n n) (locsM n n) ∧ Below wr.heap.size wr w' ∧ (w'.cell? ⟨w2.heap.size, 0, none⟩ = some (.int .i64 33) ∧ w'.cell? ⟨w2.heap.size, 1, none⟩ = some (.int .i64 0) ∧ w'.cell? ⟨w2.heap.size, 2, none⟩ = some (.slice (some ⟨lb, lo, none⟩) n lc)) := fun u hu => by
                        have h := stripe_any (hM7.below hu) (by rw [hl2, locsM_length]; omega) (by rw [hl2, locsM_length]; omega)
                        rw [hl2, locsM_length] at h
                        refine h.mono ?_
                        rintro e w' ⟨b, rfl, hn, hb⟩
                        have hb' := hu.trans (hb.mono hu.size)
                        exact ⟨b, rfl, Sv.mono hn (fun _ _ _ => trivial), hb', hkeep _ hb'⟩
                      have hln : (locsM n n).length = n := locsM_length n n
                      have h58 : ∀ u b, Below wr.heap.size wr u → Ns u (fun _ => True) (.slice (some ⟨b, 0, none⟩) n n) (locsM n n) → _ := fun u b hu hn => stripes_two (u := u) (b := b) (gO := 0) (gb := lb) (cb := lo) (ca := n) (ca' := lc) (l := locsM n n) (by rw [hln]; omega) (by rw [hln]; omega) (by rw [hln]; exact hn) (by rw [hln]; exact hN7.below hu)
                      have h58c : ∀ u b sb, Below wr.heap.size wr u → Ns u (fun _ => True) (.slice (some ⟨b, 0, none⟩) n n) (locsM n n) → _ → _ := fun u b sb hu hn hs => stripes_three (u := u) (b := b) (gO := 0) (gb := lb) (cb := lo) (ca := n) (ca' := lc) (sb := sb) (l := locsM n n) (by rw [hln]; omega) (by rw [hln]; omega) (by rw [hln]; exact hn) (by rw [hln]; exact hN7.below hu) hs
                      rw [hln] at h58 h58c
                      have h59b : ∀ u, Below wr.heap.size wr u → Calls Try.prog 59 #[.pointer (some ⟨xb, 0, none⟩)] (u.alloc (.cells #[.int .i64 33, .int .i64 0, .slice (some ⟨lb, lo, none⟩) n lc] 67)) fun e w' => ∃ b, e = .returned (stripeV 33 0 (.slice (some ⟨b, 0, none⟩) n n)) ∧ Ns w' (fun _ => True) (.slice (some ⟨b, 0, none⟩) n n) (locsM n n) ∧ Below wr.heap.size wr w' ∧ w'.heap[u.heap.size]? = some (.cells #[.int .i64 33, .int .i64 0, .slice (some ⟨lb, lo, none⟩) n lc] 67 (0, 0)) ∧ (w'.cell? ⟨w2.heap.size, 0, none⟩ = some (.int .i64 33) ∧ w'.cell? ⟨w2.heap.size, 1, none⟩ = some (.int .i64 0) ∧ w'.cell? ⟨w2.heap.size, 2, none⟩ = some (.slice (some ⟨lb, lo, none⟩) n lc)) := fun u hu => by
                        have hua := hu.alloc hu.size (.cells #[.int .i64 33, .int .i64 0, .slice (some ⟨lb, lo, none⟩) n lc] 67)
                        have h := stripe_any (hM7.below hua) (by rw [hl2, locsM_length]; omega) (by rw [hl2, locsM_length]; omega)
                        rw [hl2, locsM_length] at h
                        refine h.mono ?_
                        rintro e w' ⟨b, rfl, hn, hb⟩
                        have hb' := hua.trans (hb.mono hua.size)
                        exact ⟨b, rfl, Sv.mono hn (fun _ _ _ => trivial), hb', (hb.block _ (by simp)).trans (heap_alloc_new u _), hkeep _ hb'⟩
                      have H58C := Lib.hid h58c; have H59B := Lib.hid h59b
                      clear h58c h59b
                      have hj8 : ∀ u w', Below wr.heap.size wr u → Below u.heap.size u w' → Below wr.heap.size wr w' := fun u w' h h' => h.trans (h'.mono h.size)
                      have HKEEP := Lib.hid hkeep; have H58 := Lib.hid h58; have HJ8 := Lib.hid hj8
                      clear h58 hj8 hln
                      have H51 := Lib.hid h51; have H57 := Lib.hid h57; have H56 := Lib.hid h56; have H59 := Lib.hid h59; have HN7 := Lib.hid hN7; have HB07 := Lib.hid hB07
                      clear h51 h57 h56 h59 hN7 hG7 hM7 hB07 hkeep hl1 hl2 hd7 c7 hbr
                      unfold stripeV at H59 H59B
                      go_wp2
                      go_region_held3 (fun w' => w'.cell? ⟨w2.heap.size, 0, none⟩ = some (.int .i64 33) ∧ w'.cell? ⟨w2.heap.size, 1, none⟩ = some (.int .i64 0) ∧ w'.cell? ⟨w2.heap.size, 2, none⟩ = some (.slice (some ⟨lb, lo, none⟩) n lc)) (go_keep) ((first | (go_at_call 51; refine H51.out.mono ?_; rintro e w8 ⟨rfl, hb8, q0, q1, q2⟩) | (go_at_call 57; refine (H57.out _ hb8).mono ?_; rintro e w9 ⟨b9, rfl, hn9, hb9, q3, q4, q5⟩) | (go_at_call 56; refine (H56.out _ _ hb9 hn9).mono ?_; rintro e w10 ⟨rfl, hb10, q6, q7, q8⟩) | (go_at_call 59; (with_reducible refine (H59.out _ hb10).mono ?_); rintro e w11 ⟨b11, rfl, hn11, hb11, q9, q10, q11⟩) | (go_at_call 59; (with_reducible refine (H59B.out _ hb10).mono ?_); rintro e w11 ⟨b11, rfl, hn11, hb11, hB11, q9, q10, q11⟩) | (go_at_call 58; (with_reducible refine (H58C.out _ _ _ hb11 hn11 hB11).mono ?_); rintro e w12 ⟨rfl, hb12⟩; obtain ⟨q12, q13, q14⟩ := HKEEP.out _ (HJ8.out _ _ hb11 hb12)) | (go_at_call 58; (first | (with_reducible refine (H58.out _ _ hb11 hn11).1.mono ?_) | (with_reducible refine (H58.out _ _ hb11 hn11).2.mono ?_)); rintro e w12 ⟨rfl, hb12⟩; obtain ⟨q12, q13, q14⟩ := HKEEP.out _ (HJ8.out _ _ hb11 hb12))))
                      all_goals
                        have HBZ := Lib.hid (HB07.out.trans ((HJ8.out _ _ hb11 hb12).mono HB07.out.size))
                        clear hb8 hb9 hb10 hb11 hb12 hn9 hn11 q0 q1 q2 q3 q4 q5 q6 q7 q8 q9 q10 q11
                        go_wp2
                        go_ret
                        exact ⟨rfl, HBZ.out⟩
end Go.Proofs.Fl

import Derived.Test.YtficmalfoeaibaaXX6toX9
import Derived.BigRegion
namespace Go.Proofs.Fr
open Go.RowKit Go.Proofs.Fl

theorem crcBit_odd (r : UInt32) (h : r.toNat % 2 = 1) : bits BinOp.xor IntKind.u32 ((r.toNat : Int) / 2) 2197175160 = ((crcBit r).toNat : Int) := by
  have hr := r.toNat_lt
  have h2 : (r.toNat : Int) / 2 = ((r.toNat / 2 : Nat) : Int) := by omega
  have h3 : (2197175160 : Int) = ((2197175160 : Nat) : Int) := rfl
  rw [h2, h3, u32_xor_nat _ _ (by omega) (by decide)]
  unfold crcBit
  have h1 : r &&& 1 = 1 := UInt32.toNat.inj (by rw [UInt32.toNat_and]; show r.toNat &&& 1 = 1; rw [Nat.and_one_is_mod]; exact h)
  rw [h1, UInt32.toNat_xor, UInt32.toNat_shiftRight]
  congr 2
theorem crcBit_even (r : UInt32) (h : r.toNat % 2 = 0) : (r.toNat : Int) / 2 = ((crcBit r).toNat : Int) := by
  have h2 : (r.toNat : Int) / 2 = ((r.toNat / 2 : Nat) : Int) := by omega
  have h1 : r &&& 1 = 0 := UInt32.toNat.inj (by rw [UInt32.toNat_and]; show r.toNat &&& 1 = 0; rw [Nat.and_one_is_mod]; exact h)
  rw [h2]
  unfold crcBit
  rw [h1, UInt32.toNat_xor, UInt32.toNat_shiftRight]
  simp [Nat.shiftRight_eq_div_pow]

set_option maxHeartbeats 800000 in
set_option maxRecDepth 100000 in
theorem rcrc_any {S : Nat → Prop} {v : Value} {l : Bytes} {w : World} (hB : Bs w S v l) (hn : l.length ≤ 1000000) :
    Calls Try.prog 110 #[v] w fun e w' => e = .returned (.int .u32 (crc l).toNat) ∧ w = w' := by
  obtain ⟨ao, c, rfl, hlc, hcm, hsh⟩ := hB
  have hao : 0 < l.length → ∃ b o, ao = some ⟨b, o, none⟩ ∧ ∀ j, j < l.length → w.cell? ⟨b, o + j, none⟩ = some (.int .u8 ((l.getD j 0).toNat : Int)) := by
    intro h
    rcases hsh with ⟨rfl, rfl⟩ | ⟨b, o', rfl, _, hbw, hc⟩
    · omega
    · exact ⟨b, o', rfl, hc⟩
  clear hsh hcm
  have HA := Lib.hid hao; clear hao
  go_enter Try.func110, Try.ntmps110
  go_wp2
  go_loop [3, 4] (fun v i => ∃ (k : Nat), k ≤ l.length ∧ i = .int .i64 k ∧ v = .int .u32 (crcRun (l.take k)).toNat)
    (fun _ i => l.length - (intOf i).toNat)
  case atStart => exact ⟨0, by omega, rfl, rfl⟩
  case round =>
    obtain ⟨k, hk, rfl, rfl⟩ := hrel
    by_cases hlt : k < l.length
    · obtain ⟨b, o', rfl, hc⟩ := HA.out (by omega)
      have hcell := hc k hlt
      clear hc
      go_wp2
      go_loop [3, 5] (fun v i => ∃ (j : Nat), j ≤ 8 ∧ i = .int .i64 j ∧ v = .int .u32 (crcBits j (crcRun (l.take k) ^^^ (l.getD k 0).toUInt32)).toNat)
        (fun _ i => 8 - (intOf i).toNat)
      case atStart => exact ⟨0, by omega, rfl, ret_u32 (by rw [show crcBits 0 (crcRun (l.take k) ^^^ (l.getD k 0).toUInt32) = crcRun (l.take k) ^^^ (l.getD k 0).toUInt32 from rfl, ← crcIn_step]; simp [hlt])⟩
      case round =>
        obtain ⟨j, hj, rfl, rfl⟩ := hrel
        by_cases hjl : j < 8
        · have hbs := crcBits_succ j (crcRun (l.take k) ^^^ (l.getD k 0).toUInt32)
          generalize crcRun (l.take k) ^^^ (l.getD k 0).toUInt32 = r0 at *
          generalize crcBits j r0 = r at *
          have HBS := Lib.hid hbs
          clear hbs
          have hr := r.toNat_lt
          by_cases hod : r.toNat % 2 = 1
          · have ho : (r.toNat : Int) % 2 = 1 := by omega
            have HX := Lib.hid (crcBit_odd r hod)
            go_wp2
            go_round
            case rel => exact ⟨j + 1, by omega, by go_num, ret_u32 (by rw [HBS.out, ← HX.out])⟩
            case measure => simp [intOf]; omega
          · have ho : (r.toNat : Int) % 2 = 0 := by omega
            have HX := Lib.hid (crcBit_even r (by omega))
            go_wp2
            go_round
            case rel => exact ⟨j + 1, by omega, by go_num, ret_u32 (by rw [HBS.out, ← HX.out])⟩
            case measure => simp [intOf]; omega
        · obtain rfl : j = 8 := by omega
          go_wp2
          go_round
          case rel => exact ⟨k + 1, by omega, by go_num, ret_u32 (by rw [take_snoc' l k hlt, crcRun_snoc]; rfl)⟩
          case measure => simp [intOf]; omega
    · obtain rfl : k = l.length := by omega
      go_wp2
      go_ret
      exact ⟨by simp only [crc, ← crcOut_step]; rfl, rfl⟩

/-! a number in four bytes -/
def numL (x k : Nat) : Bytes := [if 4 ≤ k then UInt8.ofNat (x / 2 ^ 24) else 0, if 3 ≤ k then UInt8.ofNat (x / 2 ^ 16) else 0, if 2 ≤ k then UInt8.ofNat (x / 2 ^ 8) else 0, if 1 ≤ k then UInt8.ofNat x else 0]
theorem numL_end (x : Nat) : numL x 4 = putBE x 4 := by simp [numL, putBE, List.range_succ]
theorem numL_step (x k : Nat) (h : k < 4) : (numL x k).set (3 - k) (UInt8.ofNat (x / 256 ^ k)) = numL x (k + 1) := by
  have : k = 0 ∨ k = 1 ∨ k = 2 ∨ k = 3 := by omega
  rcases this with rfl | rfl | rfl | rfl <;> simp [numL]
def NumP (W : World) (B x k : Nat) (u : Value) (wr : World) : Prop := u = .int .u64 ((x / 256 ^ k : Nat) : Int) ∧ wr.heap[B]? = some (.cells (u8s (numL x k)).toArray tU8 (0, 0)) ∧ Mod (fun b => b = B) W wr

set_option maxHeartbeats 800000 in
set_option maxRecDepth 100000 in
theorem rnum_any (x : Nat) (hx : x < 18446744073709551616) (w : World) :
    Calls Try.prog 109 #[.int .u64 x, .int .i64 4] w fun e w' => ∃ v', e = .returned v' ∧ w'.ownsRow w.heap.size tU8 1 v' 4 (u8s (putBE x 4)) ∧ Below w.heap.size w w' := by
  obtain ⟨i0, hi, hz0, hz1, hz2⟩ := info_parts E28.info
  have HI := Lib.hid hi; have HZ0 := Lib.hid hz0; have HZ1 := Lib.hid hz1; have HZ2 := Lib.hid hz2
  have HX := Lib.hid hx
  clear hi hz0 hz1 hz2 hx
  go_enter Try.func109, Try.ntmps109
  go_wp2_with (at_make; refine wpList_make_full _ rfl _ _ _ rfl w.heap.size _ i0 _ 1 Try.underlying28 HI.out HZ0.out HZ1.out .i64 .i64 _ _ 4 rfl rfl rfl rfl (by rw [HZ2.out]; omega) (by unfold maxLen; omega) (Nat.le_refl _) ?_)
  intro w1 hown hg
  have hb := own_block1 hown rfl
  have hbel : Below w.heap.size w w1 := (Below.refl _ _).grown hg (Nat.le_refl _) (fun k h => by cases h)
  have hb0 : w1.heap[w.heap.size]? = some (.cells (u8s (numL x 0)).toArray tU8 (0, 0)) := by
    rw [hb, toList_madeCells_one]; rfl
  have HB0 := Lib.hid hb0; have HBEL := Lib.hid hbel
  clear hb hown hg hb0 hbel
  go_wp2
  go_loopw [0, 6] (fun u i wr => ∃ k : Nat, k ≤ 4 ∧ i = .int .i64 (3 - (k : Int)) ∧ NumP w1 w.heap.size x k u wr) (fun _ i _ => (intOf i + 1).toNat)
  case atStart => exact ⟨0, by omega, rfl, by simp, HB0.out, Mod.refl _ _⟩
  case round =>
    obtain ⟨k, hk, rfl, rfl, hb, hm⟩ := hrel
    by_cases hlt : k < 4
    · have hst := numL_step x k hlt
      have hyu : x / 256 ^ k / 256 = x / 256 ^ (k + 1) := by rw [Nat.div_div_eq_div_mul, Nat.pow_succ]
      have hyl : x / 256 ^ k < 18446744073709551616 := Nat.lt_of_le_of_lt (Nat.div_le_self _ _) HX.out
      obtain ⟨i, hi3⟩ : ∃ i, 3 - k = i := ⟨_, rfl⟩
      have hik : (3 : Int) - (k : Int) = (i : Int) := by omega
      rw [hi3] at hst
      have hi4 : i < 4 := by omega
      have hc : ∃ z, (u8s (numL x k)).toArray[i]? = some z := ⟨_, Array.getElem?_eq_getElem (by simp [numL]; omega)⟩
      obtain ⟨z, hz⟩ := hc
      have c1 : wr.cell? ⟨w.heap.size, i, none⟩ = some z := blk_cell hb hz
      have f1 := blk_free hb i
      have l1 := blk_lt hb
      have hbs := fun u => blk_set hb i u
      have hms := fun (u : Value) => hm.setCell (p := ⟨w.heap.size, i, none⟩) (fun _ => rfl) u
      have hset : (u8s (numL x k)).toArray.setIfInBounds i (.int .u8 (((x / 256 ^ k : Nat) : Int) % 256)) = (u8s (numL x (k + 1))).toArray := by
        rw [← hst, ← u8v_ofNat]
        simp [u8s, List.map_set]
      have HS := Lib.hid hset; have HBS := Lib.hid hbs; have HMS := Lib.hid hms; have HYU := Lib.hid hyu
      have hnn : (0 : Int) ≤ (i : Int) := by omega
      rw [hik]
      clear hst hb hm hz hbs hms hset hyu hi3
      generalize x / 256 ^ k = y at *
      go_wp2
      go_roundw
      case rel => exact ⟨k + 1, by omega, by rw [show (3 : Int) - ((k + 1 : Nat) : Int) = (i : Int) - 1 by omega], by rw [← HYU.out]; simp, by rw [← HS.out]; exact HBS.out _, HMS.out _⟩
      case measure => simp [intOf]
    · obtain rfl : k = 4 := by omega
      have hb2 := below_mod HBEL.out HBEL.out.size hm (fun b h => by omega)
      have ho : wr.ownsRow w.heap.size tU8 1 (.slice (some ⟨w.heap.size, 0, none⟩) 4 4) 4 (u8s (putBE x 4)) := by
        rw [numL_end] at hb
        exact ⟨by simp, .inr ⟨w.heap.size, 4, _, rfl, Nat.le_refl _, hb, Nat.le_refl _, by unfold maxLen; omega, by simp, List.take_of_length_le (by simp)⟩⟩
      have HO := Lib.hid ho; have HB2 := Lib.hid hb2
      clear hb hm ho hb2
      go_wp2
      go_ret
      exact ⟨_, rfl, HO.out, HB2.out⟩

theorem getN_take_lt (l : Bytes) (k : Nat) (hk : k ≤ 3) : getN (l.take k) < 16777216 :=
  Nat.lt_of_lt_of_le (getN_lt _) (Nat.le_trans (Nat.pow_le_pow_right (by decide) (show (l.take k).length ≤ 3 by simp; omega)) (by decide))
theorem ret_u64n {a b : Nat} (h : a = b) : Value.int .u64 (a : Int) = .int .u64 (b : Int) := by rw [h]

set_option maxHeartbeats 400000 in
set_option maxRecDepth 100000 in
theorem rread_any {S : Nat → Prop} {v : Value} {l : Bytes} {w : World} (hB : Bs w S v l) (hn : l.length ≤ 4) :
    Calls Try.prog 111 #[v] w fun e w' => e = .returned (.int .u64 (getN l)) ∧ w = w' := by
  obtain ⟨ao, c, rfl, hlc, hcm, hsh⟩ := hB
  have hao : 0 < l.length → ∃ b o, ao = some ⟨b, o, none⟩ ∧ ∀ j, j < l.length → w.cell? ⟨b, o + j, none⟩ = some (.int .u8 ((l.getD j 0).toNat : Int)) := by
    intro h
    rcases hsh with ⟨rfl, rfl⟩ | ⟨b, o', rfl, _, hbw, hc⟩
    · omega
    · exact ⟨b, o', rfl, hc⟩
  clear hsh hcm
  have HA := Lib.hid hao; clear hao
  go_enter Try.func111, Try.ntmps111
  go_wp2
  go_loop [3, 4] (fun v i => ∃ (k : Nat), k ≤ l.length ∧ i = .int .i64 k ∧ v = .int .u64 (getN (l.take k) : Nat))
    (fun _ i => l.length - (intOf i).toNat)
  case atStart => exact ⟨0, by omega, rfl, rfl⟩
  case round =>
    obtain ⟨k, hk, rfl, rfl⟩ := hrel
    by_cases hlt : k < l.length
    · obtain ⟨b, o', rfl, hc⟩ := HA.out (by omega)
      have hcell := hc k hlt
      have hnx : getN (l.take (k + 1)) = getN (l.take k) * 256 + (l.getD k 0).toNat := by rw [take_snoc' l k hlt, getN_snoc]
      have hlt2 := getN_take_lt l k (by omega)
      have hx := (l.getD k 0).toNat_lt
      generalize getN (l.take k) = g at *
      generalize (l.getD k 0).toNat = x at *
      have HNX := Lib.hid hnx
      clear hc hnx
      go_wp2
      go_round
      case rel => exact ⟨k + 1, by omega, by go_num, by rw [HNX.out]; go_num⟩
      case measure => simp [intOf]; omega
    · obtain rfl : k = l.length := by omega
      rw [List.take_length]
      go_wp2
      go_ret
      exact ⟨rfl, rfl⟩

set_option maxHeartbeats 1000000 in
set_option maxRecDepth 100000 in
theorem rframe_any {S : Nat → Prop} {v : Value} {l : Bytes} {w : World} (s p : Nat) (hs : s < 4611686018427387904) (hp : p < 256) (hB : Bs w S v l) (hn : l.length ≤ 1000000) :
    Calls Try.prog 79 #[.int .i64 s, .int .i64 p, v] w fun e w' => ∃ v', e = .returned v' ∧ Bs w' (Fresh w) v' (frame s p l) ∧ Below w.heap.size w w' := by
  obtain ⟨ao, c, rfl⟩ : ∃ ao c, v = .slice ao l.length c := by obtain ⟨ao, c, rfl, _⟩ := hB; exact ⟨ao, c, rfl⟩
  have hlc : l.length ≤ c := by obtain ⟨_, _, e, h, _⟩ := hB; injection e with _ _ e3; omega
  rw [frame]
  obtain ⟨M, hM⟩ : ∃ M, M = min l.length 50 := ⟨_, rfl⟩
  have hB' := hB.take M (by omega)
  have el : l.take M = l.take 50 := by
    rw [hM]
    by_cases h : l.length ≤ 50
    · rw [Nat.min_eq_left h, List.take_length, List.take_of_length_le h]
    · rw [Nat.min_eq_right (by omega)]
  rw [el] at hB'
  have hlen := hB'.len
  generalize l.take 50 = l' at hB' hlen
  clear hB el
  have hl50 : M ≤ 50 := by omega
  by_cases h50 : l.length ≤ 50
  · obtain rfl : M = l.length := by omega
    have HL := Lib.hid hlen; clear hlen hM
    go_enter Try.func79, Try.ntmps79
    go_wp2_with (fail)
    refine (rnum_any s (by omega) w).mono ?_
    rintro e w1 ⟨v1, rfl, hown1, hb1⟩
    go_wp2_with (at_builtin; refine wpList_app_new rfl _ _ _ rfl E28 w.heap.size _ 2 hown1 rfl rfl rfl (by intro u hu; simp at hu; rcases hu with rfl | rfl <;> rfl) (by omega) (by decide) hb1.size ?_)
    intro v2 w2 hown2 hg2 _
    have hb2 : Below w.heap.size w w2 := Grew.new hb1 hb1.size hg2 (fun g hg => (hown1.lt g hg).1)
    have hB2 := hB'.below hb2
    clear hown1 hg2 hb1
    go_wp2_with (at_builtin; refine wpList_app_bs rfl _ _ _ rfl E28 w.heap.size hown2 hB2 rfl rfl (by rw [HL.out]; omega) hb2.size ?_)
    intro v3 w3 hown3 hg3 _
    have hb3 : Below w.heap.size w w3 := Grew.new hb2 hb2.size hg3 (fun g hg => (hown2.lt g hg).1)
    have hown4 : w3.ownsRow w.heap.size tU8 1 v3 (6 + l.length) (u8s (frameHead s p l')) := by
      rw [← frame_two s p _ l' hp (by omega) HL.out]; simpa [HL.out] using hown3
    clear hown3 hown2 hg3 hb2
    have hl3 : (frameHead s p l').length = 6 + l.length := by simp [frameHead, HL.out]; omega
    have HL3 := Lib.hid hl3; clear hl3
    have hBs4 := Bs.of_own hown4 (Fresh w) (fun _ h _ => h)
    have hwr := fun x : UInt32 => wrap64_u32 x
    have hb3s := hb3.size
    go_wp2_with (go_at_call 110; refine (rcrc_any hBs4 (by rw [HL3.out]; omega)).mono ?_; rintro e w4 ⟨rfl, rfl⟩)
    have hcl := (crc (frameHead s p l')).toNat_lt
    refine (rnum_any (crc (frameHead s p l')).toNat (by omega) w3).mono ?_
    rintro e w5 ⟨v5, rfl, hown5, hb5⟩
    have hB5 := Bs.of_own hown5 (fun _ => True) (fun _ _ _ => trivial)
    have hown6 := own_below hown4 hb5
    have hb35 := hb3.trans (hb5.mono hb3s)
    obtain ⟨v5a, v5c, rfl⟩ := hB5.shape
    clear hown4 hBs4 hown5 hb5 hcl
    go_wp2_with (at_builtin; refine wpList_app_bs rfl _ _ _ rfl E28 w.heap.size hown6 hB5 rfl rfl (by rw [putBE_length]; omega) hb35.size ?_)
    intro v6 w6 hown7 hg7 _
    have hb6 : Below w.heap.size w w6 := Grew.new hb35 hb35.size hg7 (fun g hg => (hown6.lt g hg).1)
    have hown8 : w6.ownsRow w.heap.size tU8 1 v6 (6 + l.length + 4) (u8s (frameHead s p l' ++ putBE (crc (frameHead s p l')).toNat 4)) := by
      rw [u8s_append]; simpa using hown7
    have HO8 := Lib.hid hown8; have HB6 := Lib.hid hb6
    clear hown8 hown7 hg7 hb6 hown6 hB5 hb35 hb3
    go_wp2
    go_ret
    exact ⟨_, rfl, Bs.of_own HO8.out (Fresh w) (fun _ h _ => h), HB6.out⟩
  · obtain rfl : M = 50 := by omega
    have HL := Lib.hid hlen; clear hlen hM
    go_enter Try.func79, Try.ntmps79
    go_wp2_with (fail)
    refine (rnum_any s (by omega) w).mono ?_
    rintro e w1 ⟨v1, rfl, hown1, hb1⟩
    go_wp2_with (at_builtin; refine wpList_app_new rfl _ _ _ rfl E28 w.heap.size _ 2 hown1 rfl rfl rfl (by intro u hu; simp at hu; rcases hu with rfl | rfl <;> rfl) (by omega) (by decide) hb1.size ?_)
    intro v2 w2 hown2 hg2 _
    have hb2 : Below w.heap.size w w2 := Grew.new hb1 hb1.size hg2 (fun g hg => (hown1.lt g hg).1)
    have hB2 := hB'.below hb2
    clear hown1 hg2 hb1
    go_wp2_with (at_builtin; refine wpList_app_bs rfl _ _ _ rfl E28 w.heap.size hown2 hB2 rfl rfl (by rw [HL.out]; omega) hb2.size ?_)
    intro v3 w3 hown3 hg3 _
    have hb3 : Below w.heap.size w w3 := Grew.new hb2 hb2.size hg3 (fun g hg => (hown2.lt g hg).1)
    have hown4 : w3.ownsRow w.heap.size tU8 1 v3 (6 + 50) (u8s (frameHead s p l')) := by
      rw [← frame_two s p _ l' hp (by omega) HL.out]; simpa [HL.out] using hown3
    clear hown3 hown2 hg3 hb2
    have hl3 : (frameHead s p l').length = 6 + 50 := by simp [frameHead, HL.out]
    have HL3 := Lib.hid hl3; clear hl3
    have hBs4 := Bs.of_own hown4 (Fresh w) (fun _ h _ => h)
    have hwr := fun x : UInt32 => wrap64_u32 x
    have hb3s := hb3.size
    go_wp2_with (go_at_call 110; refine (rcrc_any hBs4 (by rw [HL3.out]; omega)).mono ?_; rintro e w4 ⟨rfl, rfl⟩)
    have hcl := (crc (frameHead s p l')).toNat_lt
    refine (rnum_any (crc (frameHead s p l')).toNat (by omega) w3).mono ?_
    rintro e w5 ⟨v5, rfl, hown5, hb5⟩
    have hB5 := Bs.of_own hown5 (fun _ => True) (fun _ _ _ => trivial)
    have hown6 := own_below hown4 hb5
    have hb35 := hb3.trans (hb5.mono hb3s)
    obtain ⟨v5a, v5c, rfl⟩ := hB5.shape
    clear hown4 hBs4 hown5 hb5 hcl
    go_wp2_with (at_builtin; refine wpList_app_bs rfl _ _ _ rfl E28 w.heap.size hown6 hB5 rfl rfl (by rw [putBE_length]; omega) hb35.size ?_)
    intro v6 w6 hown7 hg7 _
    have hb6 : Below w.heap.size w w6 := Grew.new hb35 hb35.size hg7 (fun g hg => (hown6.lt g hg).1)
    have hown8 : w6.ownsRow w.heap.size tU8 1 v6 (6 + 50 + 4) (u8s (frameHead s p l' ++ putBE (crc (frameHead s p l')).toNat 4)) := by
      rw [u8s_append]; simpa using hown7
    have HO8 := Lib.hid hown8; have HB6 := Lib.hid hb6
    clear hown8 hown7 hg7 hb6 hown6 hB5 hb35 hb3
    go_wp2
    go_ret
    exact ⟨_, rfl, Bs.of_own HO8.out (Fresh w) (fun _ h _ => h), HB6.out⟩
end Go.Proofs.Fr

namespace Go.Proofs.Fr
open Go.RowKit Go.Proofs.Fl

def ROpenV (S : Nat → Prop) (r : Option (Nat × Nat × Bytes)) (v : Value) (w' : World) : Prop :=
  match r with
  | none => v = .tuple #[.int .i64 0, .int .i64 0, .slice none 0 0, .bool false]
  | some (s, p, b) => ∃ bv, v = .tuple #[.int .i64 s, .int .i64 p, bv, .bool true] ∧ Bs w' S bv b

set_option maxHeartbeats 1000000 in
set_option maxRecDepth 100000 in
theorem ropen_any {S : Nat → Prop} {v : Value} {l : Bytes} {w : World} (hB : Bs w S v l) (hn : l.length ≤ 1000000) :
    Calls Try.prog 80 #[v] w fun e w' => ∃ v', e = .returned v' ∧ ROpenV S (openF l) v' w' ∧ Below w.heap.size w w' := by
  obtain ⟨ao, c, rfl⟩ : ∃ ao c, v = .slice ao l.length c := by obtain ⟨ao, c, rfl, _⟩ := hB; exact ⟨ao, c, rfl⟩
  by_cases h10 : l.length < 10
  · have : openF l = none := by simp [openF, h10]
    rw [this]
    have h1 : (l.length : Int) - 10 < 0 := by omega
    go_enter Try.func80, Try.ntmps80
    go_wp2
    exact bodyPost_ret (v := .tuple #[.int .i64 0, .int .i64 0, .slice none 0 0, .bool false]) (by simp [results, Try.results80, go_sem]) rfl ⟨_, rfl, rfl, Below.refl _ _⟩
  by_cases h60 : 60 < l.length
  · have : openF l = none := by
      rw [openF, if_neg h10, if_neg]
      intro e
      have h1 := frame_len (getN (l.take 4)) (l.getD 4 0).toNat ((l.drop 6).take (l.length - 10))
      rw [e] at h1; omega
    rw [this]
    have h1 : ¬ (l.length : Int) - 10 < 0 := by omega
    have h2 : (50 : Int) < (l.length : Int) - 10 := by omega
    go_enter Try.func80, Try.ntmps80
    go_wp2
    exact bodyPost_ret (v := .tuple #[.int .i64 0, .int .i64 0, .slice none 0 0, .bool false]) (by simp [results, Try.results80, go_sem]) rfl ⟨_, rfl, rfl, Below.refl _ _⟩
  obtain ⟨b, o, rfl⟩ : ∃ b o, ao = some ⟨b, o, none⟩ := by
    obtain ⟨_, _, e, hlc, _, ⟨rfl, rfl⟩ | ⟨b, o, rfl, _⟩⟩ := hB
    · injection e with e1 e2 e3; omega
    · injection e with e1 e2 e3; exact ⟨b, o, e1⟩
  have hlc : l.length ≤ c := by obtain ⟨_, _, e, h, _⟩ := hB; injection e with _ _ e3; omega
  have hB1 := hB.take 4 (by omega)
  have hcell : w.cell? ⟨b, o + 4, none⟩ = some (.int .u8 ((l.getD 4 0).toNat : Int)) := by
    obtain ⟨_, _, e, _, _, ⟨rfl, rfl⟩ | ⟨b', o', rfl, _, _, hc⟩⟩ := hB
    · injection e with e1 _ _; cases e1
    · injection e with e1 e2 e3; injection e1 with e1; injection e1 with e1 e2; subst e1; subst e2; exact hc 4 (by omega)
  have hB2 := hB.cut 6 (l.length - 10) (by omega)
  have eo : openF l = if frame (getN (l.take 4)) (l.getD 4 0).toNat ((l.drop 6).take (l.length - 10)) = l then some (getN (l.take 4), (l.getD 4 0).toNat, (l.drop 6).take (l.length - 10)) else none := by
    rw [openF, if_neg h10]
  rw [eo]
  have hs4 := getN_lt4 (l.take 4) (by simp; omega)
  have hr4 : (l.take 4).length ≤ 4 := by simp; omega
  have HRD := Lib.hid (fun q => Calls.quiet_of_same ((rread_any (w := w.drewN q) (hB1.drewN q) hr4).mono fun _ _ ⟨h1, h2⟩ => ⟨h1, h2.symm⟩))
  have hp8 := (l.getD 4 0).toNat_lt
  generalize (l.getD 4 0).toNat = pv at hcell hp8 ⊢
  obtain ⟨lb, hlb⟩ : ∃ lb, lb = (l.drop 6).take (l.length - 10) := ⟨_, rfl⟩
  rw [← hlb] at hB2
  rw [← hlb]
  have hll : lb.length = l.length - 10 := by rw [hlb]; simp; omega
  generalize getN (l.take 4) = sv at hs4 HRD ⊢
  obtain ⟨m, hm⟩ : ∃ m, l.length - 10 = m := ⟨_, rfl⟩
  rw [hm] at hB2 hll
  have hmi : (l.length : Int) - 10 = (m : Int) := by omega
  have hm50 : (m : Int) ≤ 50 := by omega
  have hLB := Lib.hid hB2
  have HLL := Lib.hid hll
  clear eo hlb hB1 hB2 hr4 hll
  have h4 : (4 : Int) < (l.length : Int) := by omega
  have h4' : (4 : Int) ≤ (c : Int) := by omega
  have h6 : (6 : Int) + (m : Int) ≤ (c : Int) := by omega
  have hc6 : ¬ c = 6 := by omega
  obtain ⟨L, hL⟩ : ∃ L, l.length = L := ⟨_, rfl⟩
  have HL := Lib.hid hL
  rw [hL] at hmi h4 ⊢
  clear hL
  have HB := Lib.hid hB
  clear hB
  by_cases hfr : frame sv pv lb = l
  · rw [if_pos hfr]
    have HFR := Lib.hid hfr
    clear hfr
    go_enter Try.func80, Try.ntmps80
    go_wp2
    go_quiet ((go_at_call 111; exact HRD.out _))
    go_wp2_with (fail)
    refine (rframe_any sv pv (Nat.lt_of_lt_of_le hs4 (by decide)) hp8 (hLB.out.drewN _) (by rw [HLL.out]; omega)).mono ?_
    rintro e w1 ⟨v1, rfl, hF, hb1⟩
    have hb1' : Below w.heap.size w w1 := ⟨hb1.os, hb1.tape, hb1.output, hb1.size, hb1.block⟩
    have hfl := frame_len sv pv lb
    have hsm := same_any hF (HB.out.below hb1') (by omega) (by rw [HL.out]; omega)
    obtain ⟨v1a, v1c, rfl⟩ := hF.shape
    rw [decide_eq_true HFR.out, HL.out] at hsm
    have HSM := Lib.hid hsm
    clear hF hsm hfl
    go_wp2_with (fail)
    refine HSM.out.mono ?_
    rintro e w2 ⟨rfl, hb2⟩
    have hb12 := hb1'.trans (hb2.mono hb1'.size)
    have HB12 := Lib.hid hb12
    clear hb1 hb1' hb2 hb12 HSM
    go_wp2
    refine bodyPost_ret (v := .tuple #[.int .i64 sv, .int .i64 pv, .slice (some ⟨b, o + 6, none⟩) m (c - 6), .bool true]) (by simp [results, Try.results80, go_sem]) rfl ⟨_, rfl, ⟨_, rfl, hLB.out.below HB12.out⟩, HB12.out⟩
  · rw [if_neg hfr]
    have HFR := Lib.hid hfr
    clear hfr
    go_enter Try.func80, Try.ntmps80
    go_wp2
    go_quiet ((go_at_call 111; exact HRD.out _))
    go_wp2_with (fail)
    refine (rframe_any sv pv (Nat.lt_of_lt_of_le hs4 (by decide)) hp8 (hLB.out.drewN _) (by rw [HLL.out]; omega)).mono ?_
    rintro e w1 ⟨v1, rfl, hF, hb1⟩
    have hb1' : Below w.heap.size w w1 := ⟨hb1.os, hb1.tape, hb1.output, hb1.size, hb1.block⟩
    have hfl := frame_len sv pv lb
    have hsm := same_any hF (HB.out.below hb1') (by omega) (by rw [HL.out]; omega)
    obtain ⟨v1a, v1c, rfl⟩ := hF.shape
    rw [decide_eq_false HFR.out, HL.out] at hsm
    have HSM := Lib.hid hsm
    clear hF hsm hfl
    go_wp2_with (fail)
    refine HSM.out.mono ?_
    rintro e w2 ⟨rfl, hb2⟩
    have hb12 := hb1'.trans (hb2.mono hb1'.size)
    have HB12 := Lib.hid hb12
    clear hb1 hb1' hb2 hb12 HSM
    go_wp2
    exact bodyPost_ret (v := .tuple #[.int .i64 0, .int .i64 0, .slice none 0 0, .bool false]) (by simp [results, Try.results80, go_sem]) rfl ⟨_, rfl, rfl, HB12.out⟩
end Go.Proofs.Fr

namespace Go.Proofs.Fr
open Go.RowKit Go.Proofs.Fl

abbrev rDrive : TypeId := 62
abbrev rWrite : TypeId := 134
abbrev rPool : TypeId := 53
abbrev rPtr : TypeId := 54
def NewP (w : World) (n : Nat) (v : Value) (w' : World) : Prop :=
  ∃ db lb, v = .pointer (some ⟨db, 0, none⟩) ∧ w.heap.size ≤ db ∧ w.heap.size ≤ lb ∧ lb ≠ db ∧ Below w.heap.size w w' ∧
    w'.heap[lb]? = some (.cells (List.replicate n (.slice none 0 0)).toArray tBytes (0, 0)) ∧
    w'.heap[db]? = some (.cells #[.slice (some ⟨lb, 0, none⟩) n n, .slice none 0 0, .bool false] rDrive (0, 0))

structure Live (w : World) (F : Nat → Prop) (db lb : Nat) (ov : Value) (lvs : List Value) (ovs : List (Nat × Value)) (d : DM) : Prop where
  blk : w.heap[db]? = some (.cells #[.slice (some ⟨lb, 0, none⟩) d.lasts.length d.lasts.length, ov, .bool false] rDrive (0, 0))
  row : w.heap[lb]? = some (.cells lvs.toArray tBytes (0, 0))
  fdb : F db
  flb : F lb
  ne : lb ≠ db
  own : w.ownsRow 0 rWrite 2 ov d.loose.length (wcells ovs)
  ownF : ∀ g, ov.ownBlock = some g → F g ∧ g ≠ db ∧ g ≠ lb
  len : lvs.length = d.lasts.length
  olen : ovs.length = d.loose.length
  at_ : ∀ i, i < d.lasts.length → Bs w (Im F db lb ov) (lvs.getD i undef) (d.lasts.getD i []) ∧ (d.lasts.getD i []).length ≤ 64
  oat : ∀ i, i < d.loose.length → (ovs.getD i (0, undef)).1 = (d.loose.getD i (0, [])).1 ∧ (d.loose.getD i (0, [])).1 < d.lasts.length ∧ Bs w (Im F db lb ov) (ovs.getD i (0, undef)).2 (d.loose.getD i (0, [])).2 ∧ (d.loose.getD i (0, [])).2.length ≤ 64
  few : d.lasts.length ≤ 128

structure DriveAt (w : World) (F : Nat → Prop) (db : Nat) (d : DM) : Prop where
  here : ∀ b, F b → b < w.heap.size
  is : (d.lost = true ∧ d.lasts = [] ∧ d.loose = [] ∧ F db ∧ w.heap[db]? = some (.cells #[.slice none 0 0, .slice none 0 0, .bool true] rDrive (0, 0))) ∨
    (d.lost = false ∧ ∃ lb ov lvs ovs, Live w F db lb ov lvs ovs d)

theorem Live.kept {w w' : World} {F T : Nat → Prop} {db lb : Nat} {ov : Value} {lvs : List Value} {ovs : List (Nat × Value)} {d : DM} (h : Live w F db lb ov lvs ovs d) (hm : Mod T w w') (hT : ∀ b, F b → ¬ T b) : Live w' F db lb ov lvs ovs d where
  blk := blk_mod hm h.blk (hT _ h.fdb)
  row := blk_mod hm h.row (hT _ h.flb)
  fdb := h.fdb
  flb := h.flb
  ne := h.ne
  own := own_mod h.own hm fun g hg => hT g (h.ownF g hg).1
  ownF := h.ownF
  len := h.len
  olen := h.olen
  at_ := fun i hi => ⟨(h.at_ i hi).1.kept hm fun k _ hk => hT k hk.1, (h.at_ i hi).2⟩
  oat := fun i hi => ⟨(h.oat i hi).1, (h.oat i hi).2.1, (h.oat i hi).2.2.1.kept hm fun k _ hk => hT k hk.1, (h.oat i hi).2.2.2⟩
  few := h.few

theorem DriveAt.kept {w w' : World} {F T : Nat → Prop} {db : Nat} {d : DM} (h : DriveAt w F db d) (hm : Mod T w w') (hT : ∀ b, F b → ¬ T b) : DriveAt w' F db d := by
  refine ⟨fun b hb => Nat.lt_of_lt_of_le (h.here b hb) hm.size, ?_⟩
  rcases h.is with ⟨h1, h2, h3, h4, h5⟩ | ⟨h1, lb, ov, lvs, ovs, hl⟩
  · exact .inl ⟨h1, h2, h3, h4, blk_mod hm h5 (hT _ h4)⟩
  · exact .inr ⟨h1, lb, ov, lvs, ovs, hl.kept hm hT⟩

theorem DriveAt.below {w w' : World} {F : Nat → Prop} {db : Nat} {d : DM} (h : DriveAt w F db d) (hb : Below w.heap.size w w') : DriveAt w' F db d := h.kept (Mod.of_below (fun _ => False) hb) fun _ _ => id

theorem DriveAt.mono {w : World} {F G : Nat → Prop} {db : Nat} {d : DM} (h : DriveAt w F db d) (hFG : ∀ b, F b → G b) (hG : ∀ b, G b → b < w.heap.size) : DriveAt w G db d := by
  refine ⟨hG, ?_⟩
  rcases h.is with ⟨h1, h2, h3, h4, h5⟩ | ⟨h1, lb, ov, lvs, ovs, hl⟩
  · exact .inl ⟨h1, h2, h3, hFG _ h4, h5⟩
  · exact .inr ⟨h1, lb, ov, lvs, ovs, { hl with
      fdb := hFG _ hl.fdb, flb := hFG _ hl.flb
      ownF := fun g hg => ⟨hFG _ (hl.ownF g hg).1, (hl.ownF g hg).2⟩
      at_ := fun i hi => ⟨(hl.at_ i hi).1.mono fun k _ hk => ⟨hFG k hk.1, hk.2⟩, (hl.at_ i hi).2⟩
      oat := fun i hi => ⟨(hl.oat i hi).1, (hl.oat i hi).2.1, (hl.oat i hi).2.2.1.mono fun k _ hk => ⟨hFG k hk.1, hk.2⟩, (hl.oat i hi).2.2.2⟩ }⟩

theorem DriveAt.fdb {w : World} {F : Nat → Prop} {db : Nat} {d : DM} (h : DriveAt w F db d) : F db := by
  rcases h.is with ⟨_, _, _, h4, _⟩ | ⟨_, _, _, _, _, hl⟩
  · exact h4
  · exact hl.fdb

structure DStep (w : World) (F : Nat → Prop) (db : Nat) (d' : DM) (w' : World) : Prop where
  mod : Mod F w w'
  at_ : DriveAt w' (Ext F w w') db d'

theorem Live.oao {w : World} {F : Nat → Prop} {db lb : Nat} {ov : Value} {lvs : List Value} {ovs : List (Nat × Value)} {d : DM} (h : Live w F db lb ov lvs ovs d) :
    ∃ ao cap ob, ov = .slice ao d.loose.length cap ∧ (0 < d.loose.length → ao = some ⟨ob, 0, none⟩ ∧ ov.ownBlock = some ob) := by
  rcases h.own.2 with ⟨h1, h2⟩ | ⟨g, cap, cur, h1, _⟩
  · exact ⟨none, 0, 0, by rw [h1, h2], by omega⟩
  · exact ⟨_, cap, g, h1, fun _ => ⟨rfl, by rw [h1]; rfl⟩⟩

theorem Live.ocell {w : World} {F : Nat → Prop} {db lb ob : Nat} {ov : Value} {lvs : List Value} {ovs : List (Nat × Value)} {d : DM} (h : Live w F db lb ov lvs ovs d) (ho : ov.ownBlock = some ob) (j : Nat) (hj : j < d.loose.length) :
    w.cell? ⟨ob, j * 2, none⟩ = some (.int .i64 ((ovs.getD j (0, undef)).1 : Int)) ∧ w.cell? ⟨ob, j * 2 + 1, none⟩ = some (ovs.getD j (0, undef)).2 := by
  have ha : ∀ i, (⟨ob, 0, none⟩ : Addr).add i = ⟨ob, i, none⟩ := fun i => by unfold Addr.add; split <;> simp_all
  have hc := wcells_at ovs j (by rw [h.olen]; exact hj)
  have c1 := h.own.cells ho _ _ hc.1
  have c2 := h.own.cells ho _ _ hc.2
  rw [ha] at c1 c2
  exact ⟨c1, c2⟩

theorem keep_live {w w' : World} {F : Nat → Prop} {db lb : Nat} {ov : Value} {lvs : List Value} {ovs : List (Nat × Value)} {d : DM} (hh : ∀ b, F b → b < w.heap.size) (h : Live w F db lb ov lvs ovs d) (h1 : d.lost = false) (sel : Nat → Bool)
    (hm : Mod (fun b => b = db ∨ b = lb) w w') (hl : w'.heap[lb]? = some (.cells (runW sel ovs (0, undef) d.loose.length lvs).toArray tBytes (0, 0)))
    (hD : w'.heap[db]? = some (.cells #[.slice (some ⟨lb, 0, none⟩) d.lasts.length d.lasts.length, .slice none 0 0, .bool false] rDrive (0, 0))) : DStep w F db (d.keep sel) w' := by
  refine ⟨hm.mono fun k _ hk => ?_, ⟨fun b hb => ?_, .inr ⟨h1, lb, .slice none 0 0, runW sel ovs (0, undef) d.loose.length lvs, [], ?_⟩⟩⟩
  · rcases hk with rfl | rfl
    · exact h.fdb
    · exact h.flb
  · rcases hb with hb | hb
    · exact Nat.lt_of_lt_of_le (hh b hb) hm.size
    · exact hb.2
  · have hcar : ∀ {u : Value} {m : Bytes}, Bs w (Im F db lb ov) u m → Bs w' (Im (Ext F w w') db lb (.slice none 0 0)) u m := fun {u m} hu =>
      (hu.kept hm (fun k _ hk h' => by
        rcases h' with h' | h'
        · exact hk.2.1 h'
        · exact hk.2.2.1 h')).mono fun k _ hk => ⟨.inl hk.1, hk.2.1, hk.2.2.1, by simp [Value.ownBlock]⟩
    have hR := runW_rel (R := fun v l => Bs w' (Im (Ext F w w') db lb (.slice none 0 0)) v l ∧ l.length ≤ 64) sel ovs d.loose lvs d.lasts h.len (fun i hi => ⟨hcar (h.at_ i hi).1, (h.at_ i hi).2⟩)
      (fun i hi => ⟨(h.oat i hi).1, hcar (h.oat i hi).2.2.1, (h.oat i hi).2.2.2⟩) d.loose.length (Nat.le_refl _)
    exact {
      blk := by simpa [DM.keep] using hD
      row := hl
      fdb := .inl h.fdb
      flb := .inl h.flb
      ne := h.ne
      own := World.ownsRow_nil _ _ _ _
      ownF := fun g hg => by simp [Value.ownBlock] at hg
      len := by simp [DM.keep, h.len]
      olen := by simp [DM.keep]
      at_ := fun i hi => hR i (by simpa [DM.keep] using hi)
      oat := fun i hi => by simp [DM.keep] at hi
      few := by simpa [DM.keep] using h.few }

theorem Live.wrs {w : World} {F : Nat → Prop} {db lb ob : Nat} {ov : Value} {lvs : List Value} {ovs : List (Nat × Value)} {d : DM} (h : Live w F db lb ov lvs ovs d) (hao : 0 < d.loose.length → ov.ownBlock = some ob) :
    ∀ j, j < d.loose.length → (ovs.getD j (0, undef)).1 < d.lasts.length ∧ (∃ ao m k, (ovs.getD j (0, undef)).2 = .slice ao m k) ∧ w.cell? ⟨ob, j * 2, none⟩ = some (.int .i64 ((ovs.getD j (0, undef)).1 : Int)) ∧ w.cell? ⟨ob, j * 2 + 1, none⟩ = some (ovs.getD j (0, undef)).2 := by
  intro j hj
  obtain ⟨x1, x2, x3, x4⟩ := h.oat j hj
  obtain ⟨c1, c2⟩ := h.ocell (hao (by omega)) j hj
  obtain ⟨ao, c, e⟩ := x3.shape
  exact ⟨by rw [x1]; exact x2, ⟨ao, _, c, e⟩, c1, c2⟩

theorem Live.lbob {w : World} {F : Nat → Prop} {db lb ob : Nat} {ov : Value} {lvs : List Value} {ovs : List (Nat × Value)} {d : DM} (h : Live w F db lb ov lvs ovs d) (hao : 0 < d.loose.length → ov.ownBlock = some ob) : ∃ ob', lb ≠ ob' ∧ (0 < d.loose.length → ov.ownBlock = some ob') := by
  by_cases h0 : 0 < d.loose.length
  · exact ⟨ob, fun e => (h.ownF ob (hao h0)).2.2 e.symm, hao⟩
  · exact ⟨lb + 1, by omega, fun h' => absurd h' h0⟩

theorem drive_made {w w' : World} {n : Nat} {v : Value} (hn : n ≤ 128) (h : NewP w n v w') : ∃ db, v = .pointer (some ⟨db, 0, none⟩) ∧ w.heap.size ≤ db ∧ Below w.heap.size w w' ∧ DriveAt w' (Ext (fun _ => False) w w') db (DM.new n) := by
  obtain ⟨db, lb, rfl, hdb, hlb, hne, hb, hr, hD⟩ := h
  refine ⟨db, rfl, hdb, hb, ⟨fun b hb => ?_, .inr ⟨rfl, lb, .slice none 0 0, List.replicate n (.slice none 0 0), [], ?_⟩⟩⟩
  · rcases hb with hb | hb
    · exact hb.elim
    · exact hb.2
  · exact {
      blk := by simpa [DM.new] using hD
      row := hr
      fdb := .inr ⟨hdb, blk_lt hD⟩
      flb := .inr ⟨hlb, blk_lt hr⟩
      ne := hne
      own := World.ownsRow_nil _ _ _ _
      ownF := fun g hg => by simp [Value.ownBlock] at hg
      len := by simp [DM.new]
      olen := by simp [DM.new]
      at_ := fun i hi => by
        have hi' : i < n := by simpa [DM.new] using hi
        simp only [DM.new, List.getD_eq_getElem?_getD, List.getElem?_replicate, hi', if_true, Option.getD_some]
        exact ⟨Bs.nil _ _, by simp⟩
      oat := fun i hi => by simp [DM.new] at hi
      few := by simpa [DM.new] using hn }

theorem DriveAt.get_le {w : World} {F : Nat → Prop} {db : Nat} {d : DM} (h : DriveAt w F db d) : ∀ i, i < d.cap → (d.get i).length ≤ 64 := by
  intro i hi
  unfold DM.cap at hi
  rcases h.is with ⟨h1, h2, h3, h4, h5⟩ | ⟨h1, lb, ov, lvs, ovs, hl⟩
  · rw [h2] at hi; simp at hi
  · exact lastW_le _ _ _ (hl.at_ i hi).2 (fun j hj => (hl.oat j hj).2.2.2) _ (Nat.le_refl _)

theorem DriveAt.cap_le {w : World} {F : Nat → Prop} {db : Nat} {d : DM} (h : DriveAt w F db d) : d.cap ≤ 128 := by
  unfold DM.cap
  rcases h.is with ⟨h1, h2, h3, h4, h5⟩ | ⟨h1, lb, ov, lvs, ovs, hl⟩
  · rw [h2]; simp
  · exact hl.few

theorem DriveAt.lost_cap {w : World} {F : Nat → Prop} {db : Nat} {d : DM} (h : DriveAt w F db d) (h0 : d.lost = true) : d.cap = 0 := by
  unfold DM.cap
  rcases h.is with ⟨h1, h2, h3, h4, h5⟩ | ⟨h1, lb, ov, lvs, ovs, hl⟩
  · rw [h2]; rfl
  · rw [h1] at h0; cases h0

theorem DriveAt.last_le {w : World} {F : Nat → Prop} {db : Nat} {d : DM} (h : DriveAt w F db d) : ∀ i, i < d.cap → (d.lasts.getD i []).length ≤ 64 := by
  intro i hi
  unfold DM.cap at hi
  rcases h.is with ⟨h1, h2, h3, h4, h5⟩ | ⟨h1, lb, ov, lvs, ovs, hl⟩
  · rw [h2] at hi; simp at hi
  · exact (hl.at_ i hi).2

structure PoolIn (w : World) (F : Nat → Prop) (pb : Nat) (lv : Value) (dbs : List Nat) (G : Nat → Nat → Prop) (m : PM) : Prop where
  here : ∀ b, F b → b < w.heap.size
  blk : w.heap[pb]? = some (.cells #[lv, .int .i64 m.fuse, .bool m.down] rPool (0, 0))
  fpb : F pb
  own : w.ownsRow 0 rPtr 1 lv m.list.length (ptrs dbs)
  ownF : ∀ g, lv.ownBlock = some g → F g ∧ g ≠ pb ∧ ∀ i, ¬ G i g
  len : dbs.length = m.list.length
  at_ : ∀ i, i < m.list.length → DriveAt w (G i) (dbs.getD i 0) (m.list.getD i dNone)
  sub : ∀ i b, G i b → F b ∧ b ≠ pb
  apart : ∀ i j b, G i b → G j b → i = j
  few : m.list.length ≤ 12
  fuse1 : -1 ≤ m.fuse
  fuse2 : m.fuse ≤ 9223372036854775807

def PoolAt (w : World) (F : Nat → Prop) (pb : Nat) (m : PM) : Prop := ∃ lv dbs G, PoolIn w F pb lv dbs G m

theorem PoolIn.kept {w w' : World} {F T : Nat → Prop} {pb : Nat} {lv : Value} {dbs : List Nat} {G : Nat → Nat → Prop} {m : PM} (h : PoolIn w F pb lv dbs G m) (hm : Mod T w w') (hT : ∀ b, F b → ¬ T b) : PoolIn w' F pb lv dbs G m :=
  { h with
    here := fun b hb => Nat.lt_of_lt_of_le (h.here b hb) hm.size
    blk := blk_mod hm h.blk (hT _ h.fpb)
    own := own_mod h.own hm fun g hg => hT g (h.ownF g hg).1
    at_ := fun i hi => (h.at_ i hi).kept hm fun b hb => hT b (h.sub i b hb).1 }

theorem PoolAt.kept {w w' : World} {F T : Nat → Prop} {pb : Nat} {m : PM} (h : PoolAt w F pb m) (hm : Mod T w w') (hT : ∀ b, F b → ¬ T b) : PoolAt w' F pb m := by
  obtain ⟨lv, dbs, G, h⟩ := h; exact ⟨lv, dbs, G, h.kept hm hT⟩

theorem PoolAt.below {w w' : World} {F : Nat → Prop} {pb : Nat} {m : PM} (h : PoolAt w F pb m) (hb : Below w.heap.size w w') : PoolAt w' F pb m := h.kept (Mod.of_below (fun _ => False) hb) fun _ _ => id

theorem PoolAt.here {w : World} {F : Nat → Prop} {pb : Nat} {m : PM} (h : PoolAt w F pb m) : ∀ b, F b → b < w.heap.size := by
  obtain ⟨lv, dbs, G, h⟩ := h; exact h.here

structure PStep (w : World) (F : Nat → Prop) (pb : Nat) (m' : PM) (w' : World) : Prop where
  mod : Mod F w w'
  at_ : PoolAt w' (Ext F w w') pb m'

theorem PoolIn.cell {w : World} {F : Nat → Prop} {pb : Nat} {lv : Value} {dbs : List Nat} {G : Nat → Nat → Prop} {m : PM} (h : PoolIn w F pb lv dbs G m) (i : Nat) (hi : i < m.list.length) :
    ∃ ao cap ob, lv = .slice ao m.list.length cap ∧ ao = some ⟨ob, 0, none⟩ ∧ w.cell? ⟨ob, i, none⟩ = some (.pointer (some ⟨dbs.getD i 0, 0, none⟩)) := by
  rcases h.own.2 with ⟨h1, h2⟩ | ⟨g, cap, cur, h1, _⟩
  · omega
  · have hc := h.own.cells (g := g) (by rw [h1]; rfl) i (.pointer (some ⟨dbs.getD i 0, 0, none⟩)) (by
      have : i < dbs.length := by rw [h.len]; exact hi
      simp [ptrs, List.getD_eq_getElem?_getD, this])
    have ha : (⟨g, 0, none⟩ : Addr).add i = ⟨g, i, none⟩ := by unfold Addr.add; split <;> simp_all
    rw [ha] at hc
    exact ⟨_, cap, g, h1, rfl, hc⟩

theorem PoolIn.head {w w' : World} {F : Nat → Prop} {pb : Nat} {lv : Value} {dbs : List Nat} {G : Nat → Nat → Prop} {m : PM} (h : PoolIn w F pb lv dbs G m) (hm : Mod (fun b => b = pb) w w') (f : Int) (d : Bool)
    (hb : w'.heap[pb]? = some (.cells #[lv, .int .i64 f, .bool d] rPool (0, 0))) (hf1 : -1 ≤ f) (hf2 : f ≤ 9223372036854775807) : PoolIn w' F pb lv dbs G { m with fuse := f, down := d } where
  here := fun b hb => Nat.lt_of_lt_of_le (h.here b hb) hm.size
  blk := hb
  fpb := h.fpb
  own := own_mod h.own hm fun g hg => (h.ownF g hg).2.1
  ownF := h.ownF
  len := h.len
  at_ := fun i hi => (h.at_ i hi).kept hm fun b hb => (h.sub i b hb).2
  sub := h.sub
  apart := h.apart
  few := h.few
  fuse1 := hf1
  fuse2 := hf2

theorem PoolIn.ext {w' : World} {F : Nat → Prop} {pb : Nat} {lv : Value} {dbs : List Nat} {G : Nat → Nat → Prop} {m : PM} (h : PoolIn w' F pb lv dbs G m) (w0 : World) : PoolIn w' (Ext F w0 w') pb lv dbs G m :=
  { h with
    here := fun b hb => by
      rcases hb with hb | hb
      · exact h.here b hb
      · exact hb.2
    fpb := .inl h.fpb
    ownF := fun g hg => ⟨.inl (h.ownF g hg).1, (h.ownF g hg).2⟩
    sub := fun i b hb => ⟨.inl (h.sub i b hb).1, (h.sub i b hb).2⟩ }

theorem PoolIn.step {w w' : World} {F : Nat → Prop} {pb : Nat} {lv : Value} {dbs : List Nat} {G : Nat → Nat → Prop} {m : PM} (h : PoolIn w F pb lv dbs G m) (hm : Mod (fun b => b = pb) w w') (f : Int) (d : Bool)
    (hb : w'.heap[pb]? = some (.cells #[lv, .int .i64 f, .bool d] rPool (0, 0))) (hf1 : -1 ≤ f) (hf2 : f ≤ 9223372036854775807) : PStep w F pb { m with fuse := f, down := d } w' :=
  ⟨hm.mono fun _ _ e => e ▸ h.fpb, lv, dbs, G, (h.head hm f d hb hf1 hf2).ext w⟩

def BurnP (pb : Nat) (lv : Value) (f : Int) (d : Bool) (w w' : World) : Prop := Mod (fun b => b = pb) w w' ∧ w'.heap[pb]? = some (.cells #[lv, .int .i64 f, .bool d] rPool (0, 0))

theorem PoolIn.drive2 {w w' : World} {F : Nat → Prop} {pb : Nat} {lv : Value} {dbs : List Nat} {G : Nat → Nat → Prop} {m : PM} (h : PoolIn w F pb lv dbs G m) (i : Nat) (hi : i < m.list.length) (d' : DM)
    (hs : DStep w (G i) (dbs.getD i 0) d' w') : Mod F w w' ∧ PoolIn w' (Ext F w w') pb lv dbs (fun j => if j = i then Ext (G i) w w' else G j) { m with list := m.list.set i d' } := by
  have hmF : Mod F w w' := hs.mod.mono fun k _ hk => (h.sub i k hk).1
  have hGs : ∀ j b, G j b → b < w.heap.size := fun j b hb => h.here b (h.sub j b hb).1
  have hfar : ∀ j b, (if j = i then Ext (G i) w w' else G j) b → G j b ∨ (j = i ∧ w.heap.size ≤ b ∧ b < w'.heap.size) := fun j b hb => by
    split at hb
    · rename_i e; subst e
      rcases hb with hb | hb
      · exact .inl hb
      · exact .inr ⟨rfl, hb⟩
    · exact .inl hb
  refine ⟨hmF, ?_⟩
  exact {
    here := Ext.here h.here hmF.size
    blk := blk_mod hs.mod h.blk fun hb => (h.sub i _ hb).2 rfl
    fpb := .inl h.fpb
    own := by
      have := own_mod h.own hs.mod fun g hg => (h.ownF g hg).2.2 i
      simpa using this
    ownF := fun g hg => by
      have hx := h.ownF g hg
      have hlt := h.here g hx.1
      refine ⟨.inl hx.1, hx.2.1, fun j hj => ?_⟩
      rcases hfar j g hj with hj | hj
      · exact hx.2.2 j hj
      · omega
    len := by simp [h.len]
    at_ := fun j hj => by
      have hj' : j < m.list.length := by simpa using hj
      show DriveAt w' (if j = i then Ext (G i) w w' else G j) (dbs.getD j 0) ((m.list.set i d').getD j dNone)
      rw [getD_set]
      by_cases e : j = i
      · subst e
        rw [if_pos rfl, if_pos ⟨rfl, hj'⟩]
        exact hs.at_
      · rw [if_neg e, if_neg (by omega)]
        exact (h.at_ j hj').kept hs.mod fun b hb hb2 => e (h.apart j i b hb hb2)
    sub := fun j b hb => by
      rcases hfar j b hb with hb | hb
      · exact ⟨.inl (h.sub j b hb).1, (h.sub j b hb).2⟩
      · have := h.here pb h.fpb
        exact ⟨.inr hb.2, by omega⟩
    apart := fun j k b hj hk => by
      rcases hfar j b hj with hj | hj
      · rcases hfar k b hk with hk | hk
        · exact h.apart j k b hj hk
        · have := hGs j b hj; omega
      · rcases hfar k b hk with hk | hk
        · have := hGs k b hk; omega
        · omega
    few := by simpa using h.few
    fuse1 := h.fuse1
    fuse2 := h.fuse2 }

theorem PoolIn.drive {w w' : World} {F : Nat → Prop} {pb : Nat} {lv : Value} {dbs : List Nat} {G : Nat → Nat → Prop} {m : PM} (h : PoolIn w F pb lv dbs G m) (i : Nat) (hi : i < m.list.length) (d' : DM)
    (hs : DStep w (G i) (dbs.getD i 0) d' w') : PStep w F pb { m with list := m.list.set i d' } w' :=
  ⟨(h.drive2 i hi d' hs).1, lv, dbs, _, (h.drive2 i hi d' hs).2⟩

theorem PStep.of {w w1 w2 : World} {F : Nat → Prop} {pb : Nat} {m' : PM} (hF : ∀ b, F b → b < w.heap.size) (h1 : Mod F w w1) (h2 : PStep w1 F pb m' w2) : PStep w F pb m' w2 := by
  refine ⟨h1.trans h2.mod, ?_⟩
  obtain ⟨lv, dbs, G, h⟩ := h2.at_
  have hs1 := h1.size
  have hs2 := h2.mod.size
  have hE : ∀ b, Ext F w1 w2 b → Ext F w w2 b := fun b hb => by
    rcases hb with hb | hb
    · exact .inl hb
    · exact .inr ⟨by omega, hb.2⟩
  exact ⟨lv, dbs, G, { h with
    here := Ext.here hF (by omega)
    fpb := hE _ h.fpb
    ownF := fun g hg => ⟨hE _ (h.ownF g hg).1, (h.ownF g hg).2⟩
    sub := fun i b hb => ⟨hE _ (h.sub i b hb).1, (h.sub i b hb).2⟩ }⟩

theorem PStep.same {w w' : World} {F : Nat → Prop} {pb : Nat} {m : PM} {lv : Value} {dbs : List Nat} {G : Nat → Nat → Prop} (h : PoolIn w' F pb lv dbs G m) (hm : Mod F w w') : PStep w F pb m w' :=
  ⟨hm, lv, dbs, G, h.ext w⟩

theorem PoolIn.pstep {w w' : World} {F : Nat → Prop} {pb : Nat} {m : PM} {lv : Value} {dbs : List Nat} {G : Nat → Nat → Prop} (h : PoolIn w F pb lv dbs G m) (hb : Below w.heap.size w w') : PStep w F pb m w' :=
  PStep.same (h.kept (Mod.of_below (fun _ => False) hb) fun _ _ => id) (Mod.of_below F hb)

end Go.Proofs.Fr

namespace Go.Proofs.Fr
open Go.RowKit Go.Proofs.Fl

set_option maxHeartbeats 1000000 in
set_option maxRecDepth 100000 in
theorem rnew (s : Int) (w : World) : Calls Try.prog 32 #[.int .i64 s] w fun e w' => ∃ v, e = .returned v ∧ NewP w (clampN s) v w' := by
  obtain ⟨i0, hi, hz0, hz1, hz2⟩ := info_parts E59.info
  have HI := Lib.hid hi; have HZ0 := Lib.hid hz0; have HZ1 := Lib.hid hz1; have HZ2 := Lib.hid hz2
  clear hi hz0 hz1 hz2
  unfold clampN
  by_cases h1 : s < 0
  · rw [if_pos h1]
    go_enter Try.func32, Try.ntmps32
    go_wp2_with (at_make; refine wpList_make_full _ rfl _ _ _ rfl w.heap.size _ i0 _ 1 Try.underlying59 HI.out HZ0.out HZ1.out .i64 .i64 _ _ 0 rfl rfl rfl rfl (by rw [HZ2.out]; omega) (by unfold maxLen; omega) (Nat.le_refl _) ?_)
    intro w1 hown hg
    have hb := own_block1 hown rfl
    have hbel : Below w.heap.size w w1 := (Below.refl _ _).grown hg (Nat.le_refl _) (fun k h => by cases h)
    have hsz := blk_lt hb
    have ez : (madeCells #[Value.slice none 0 0] 0).toList = List.replicate 0 (.slice none 0 0) := toList_madeCells_one _ _
    rw [ez] at hb
    have HB := Lib.hid hb; have HS := Lib.hid hsz; clear hb hown hg ez hsz
    go_wp2
    go_ret
    refine ⟨_, rfl, w1.heap.size, w.heap.size, rfl, hbel.size, Nat.le_refl _, Nat.ne_of_lt HS.out, hbel.alloc hbel.size _, blk_alloc HB.out _, heap_alloc_new w1 _⟩
  · rw [if_neg h1]
    by_cases h2 : 128 < s
    · rw [if_pos h2]
      go_enter Try.func32, Try.ntmps32
      go_wp2_with (at_make; refine wpList_make_full _ rfl _ _ _ rfl w.heap.size _ i0 _ 1 Try.underlying59 HI.out HZ0.out HZ1.out .i64 .i64 _ _ 128 rfl rfl rfl rfl (by rw [HZ2.out]; omega) (by unfold maxLen; omega) (Nat.le_refl _) ?_)
      intro w1 hown hg
      have hb := own_block1 hown rfl
      have hbel : Below w.heap.size w w1 := (Below.refl _ _).grown hg (Nat.le_refl _) (fun k h => by cases h)
      have hsz := blk_lt hb
      have ez : (madeCells #[Value.slice none 0 0] 128).toList = List.replicate 128 (.slice none 0 0) := toList_madeCells_one _ _
      rw [ez] at hb
      have HB := Lib.hid hb; have HS := Lib.hid hsz; clear hb hown hg ez hsz
      go_wp2
      go_ret
      refine ⟨_, rfl, w1.heap.size, w.heap.size, rfl, hbel.size, Nat.le_refl _, Nat.ne_of_lt HS.out, hbel.alloc hbel.size _, blk_alloc HB.out _, heap_alloc_new w1 _⟩
    · rw [if_neg h2]
      obtain ⟨n, rfl⟩ : ∃ n : Nat, s = n := ⟨s.toNat, by omega⟩
      have en : ((n : Int)).toNat = n := rfl
      rw [en]
      clear en
      go_enter Try.func32, Try.ntmps32
      go_wp2_with (at_make; refine wpList_make_full _ rfl _ _ _ rfl w.heap.size _ i0 _ 1 Try.underlying59 HI.out HZ0.out HZ1.out .i64 .i64 _ _ n rfl rfl rfl rfl (by rw [HZ2.out]; omega) (by unfold maxLen; omega) (Nat.le_refl _) ?_)
      intro w1 hown hg
      have hb := own_block1 hown rfl
      have hbel : Below w.heap.size w w1 := (Below.refl _ _).grown hg (Nat.le_refl _) (fun k h => by cases h)
      have hsz := blk_lt hb
      have ez : (madeCells #[Value.slice none 0 0] n).toList = List.replicate n (.slice none 0 0) := toList_madeCells_one _ _
      rw [ez] at hb
      have HB := Lib.hid hb; have HS := Lib.hid hsz; clear hb hown hg ez hsz
      go_wp2
      go_ret
      refine ⟨_, rfl, w1.heap.size, w.heap.size, rfl, hbel.size, Nat.le_refl _, Nat.ne_of_lt HS.out, hbel.alloc hbel.size _, blk_alloc HB.out _, heap_alloc_new w1 _⟩

theorem rnew_made (s : Int) (w : World) : Calls Try.prog 32 #[.int .i64 s] w fun e w' => ∃ db, e = .returned (.pointer (some ⟨db, 0, none⟩)) ∧ w.heap.size ≤ db ∧ Below w.heap.size w w' ∧ DriveAt w' (Ext (fun _ => False) w w') db (DM.new (clampN s)) := by
  refine (rnew s w).mono ?_
  rintro e w' ⟨v, rfl, h⟩
  obtain ⟨db, rfl, h1, h2, h3⟩ := drive_made (clampN_le s) h
  exact ⟨db, rfl, h1, h2, h3⟩

set_option maxHeartbeats 400000 in
set_option maxRecDepth 100000 in
theorem rcheck_ok (db n c i : Nat) (ao : Option Addr) (w : World) (h0 : w.cell? ⟨db, 0, none⟩ = some (.slice ao n c)) (h : w.cell? ⟨db, 2, none⟩ = some (.bool false)) (hi : i < n) :
    Calls Try.prog 108 #[.pointer (some ⟨db, 0, none⟩), .int .i64 i] w fun e w' => e = .returned (.int .i64 0) ∧ w = w' := by
  have h1 : ¬ ((i : Int) < 0) := by omega
  have h2 : ¬ ((n : Int) ≤ (i : Int)) := by omega
  go_enter Try.func108, Try.ntmps108
  go_wp2
  go_ret
  exact ⟨rfl, rfl⟩

set_option maxHeartbeats 800000 in
set_option maxRecDepth 100000 in
theorem rget_walk (db lb ob n cap c i : Nat) (ao0 : Option Addr) (bv : Value) (b0 : Bytes) (S : Nat → Prop) (ws : List (Nat × Bytes)) (vs : Nat → Value) (w : World)
    (h0 : w.cell? ⟨db, 0, none⟩ = some (.slice (some ⟨lb, 0, none⟩) n c)) (h1 : w.cell? ⟨db, 1, none⟩ = some (.slice ao0 ws.length cap))
    (hi : i < n) (hc : w.cell? ⟨lb, i, none⟩ = some bv) (hB : Bs w S bv b0)
    (hw : ∀ j, j < ws.length → Bs w S (vs j) (ws.getD j (0, [])).2 ∧ w.cell? ⟨ob, j * 2, none⟩ = some (.int .i64 ((ws.getD j (0, [])).1 : Int)) ∧ w.cell? ⟨ob, j * 2 + 1, none⟩ = some (vs j))
    (hkm : ws.length ≤ 1000000000) (hao : 0 < ws.length → ao0 = some ⟨ob, 0, none⟩) :
    Calls Try.prog 81 #[.pointer (some ⟨db, 0, none⟩), .int .i64 i] w fun e w' => (∃ v', e = .returned v' ∧ Bs w S v' (lastW ws i ws.length b0)) ∧ w = w' := by
  obtain ⟨ba, bc, rfl⟩ := hB.shape
  have hin : (i : Int) < (n : Int) := by omega
  have HW := Lib.hid hw; have HB := Lib.hid hB
  clear hw hB
  go_enter Try.func81, Try.ntmps81
  go_wp2
  go_loop [5, 6] (fun u i' => ∃ j : Nat, j ≤ ws.length ∧ i' = .int .i64 j ∧ Bs w S u (lastW ws i j b0)) (fun _ i' => ws.length - (intOf i').toNat)
  case atStart => exact ⟨0, by omega, rfl, HB.out⟩
  case round =>
    obtain ⟨j, hj, rfl, hu⟩ := hrel
    by_cases hlt : j < ws.length
    · obtain rfl := hao (by omega)
      obtain ⟨x1, x3, x4⟩ := HW.out j hlt
      have e2 : lastW ws i (j + 1) b0 = if (ws.getD j (0, [])).1 = i then (ws.getD j (0, [])).2 else lastW ws i j b0 := rfl
      generalize ws.getD j (0, []) = pr at *
      generalize vs j = vj at *
      obtain ⟨sl, lj⟩ := pr
      simp only at x1 x3 x4 e2
      obtain ⟨va, vc, rfl⟩ := x1.shape
      have X1 := Lib.hid x1; have HU := Lib.hid hu
      clear x1 hu
      have hji : (j : Int) < (ws.length : Int) := by omega
      by_cases hs : sl = i
      · rw [if_pos hs] at e2
        have E2 := Lib.hid e2
        subst hs
        clear e2
        go_wp2
        go_round
        case rel => exact ⟨j + 1, by omega, by go_num, by rw [E2.out]; exact X1.out⟩
        case measure => simp [intOf]; omega
      · rw [if_neg hs] at e2
        have E2 := Lib.hid e2
        have hs' : ¬ (sl : Int) = (i : Int) := by omega
        clear e2 hs
        go_wp2
        go_round
        case rel => exact ⟨j + 1, by omega, by go_num, by rw [E2.out]; exact HU.out⟩
        case measure => simp [intOf]; omega
    · obtain rfl : j = ws.length := by omega
      have HU := Lib.hid hu
      clear hu
      go_wp2
      go_ret
      exact ⟨⟨_, rfl, HU.out⟩, rfl⟩
end Go.Proofs.Fr

namespace Go.Proofs.Fr
open Go.RowKit Go.Proofs.Fl

section
variable {w : World} {ops : Array Oper} {o : Oper} {a : Act} {Q : Exit → Act → World → Prop}
/-- 'append([]byte{}, b...)' at a step of a region that draws its order. -/
theorem step_copy {K : Act → World → Prop} {C : Prop} (hgd : o.guard = none) (s x : Operand) (t : TypeId) (ho : o.op = .call { callee := .builtin .append, args := #[s, x], argTypes := #[t, t] })
    {z : Value} (E : Elem Try.prog t tU8 z 1 1) {S : Nat → Prop} {xv : Value} {l : Bytes} (hB : Bs w S xv l) (hl : l.length ≤ 1000000)
    (hs : a.eval s = .slice (some ⟨w.heap.size, 0, none⟩) 0 0) (hx : a.eval x = xv)
    (h : ∀ v' w', Bs w' (Fresh w) v' l → Below w.heap.size w w' → w.heap.size < w'.heap.size → K (a.put o.dst v') w') :
    if Region.wanted o (yielded ops a.tmps) = true then Oper.wp Try.prog o a (w.alloc (.cells #[] tU8)) K Q else C := by
  rw [if_pos (by simp [Region.wanted, hgd])]
  have hown0 : (w.alloc (.cells #[] tU8)).ownsRow w.heap.size tU8 1 (.slice (some ⟨w.heap.size, 0, none⟩) 0 0) 0 [] := World.ownsRow_made w #[] 0 (Nat.le_refl _) (by simp) (by simp)
  have hb0 : Below w.heap.size w (w.alloc (.cells #[] tU8)) := (Below.refl _ _).alloc (Nat.le_refl _) _
  have hB1 := hB.below hb0
  obtain ⟨i0, hi, hz0, hz1, hz2⟩ := info_parts E.info
  obtain ⟨ao, c, rfl, hlc, hcm, hsh⟩ := hB1
  rcases hsh with ⟨rfl, rfl⟩ | ⟨b, o', rfl, _, hbw, hc⟩
  · have hl0 : l = [] := List.eq_nil_of_length_eq_zero (by omega)
    subst hl0
    have hrun := run_append_owned_none (P := Try.prog) (w := w.alloc (.cells #[] tU8)) w.heap.size t o.type tU8 i0 1 E.under hi _ 0 [] hown0
    rw [List.length_nil] at hx
    unfold Oper.wp
    simp [execOp, ho, resolve, invoke, builtin, hs, hx, hrun, Result.andThen]
    exact h _ _ (Bs.of_own (base := w.heap.size) (n := 0) (l := []) (by simpa [u8s] using hown0) _ (fun b hb _ => hb)) hb0 (by simp)
  · obtain ⟨v', w', hrun, h2, h3, h4⟩ := run_app (P := Try.prog) (w.alloc (.cells #[] tU8)) t o.type tU8 E w.heap.size hown0 ⟨b, o', none⟩ l.length c (u8s l) (by simp) (Bs.news hc) (u8s_one l) (by omega) (by decide) (by simp)
    unfold Oper.wp
    simp [execOp, ho, resolve, invoke, builtin, hs, hx, hrun, Result.andThen]
    have hbel : Below w.heap.size w w' := Grew.new hb0 (by simp) h3 (fun g hg => by simp [Value.ownBlock] at hg; omega)
    exact h v' w' (Bs.of_own (by simpa using h2) _ (fun b hb _ => hb)) hbel (by have := h3.by_.size; simp at this; omega)
end
theorem E60 : Elem Try.prog 60 rWrite (.agg #[.int .i64 0, .slice none 0 0]) 2 32 := ⟨Try.underlying60, by kernel_rfl, by decide, by decide⟩

def WriteP (w : World) (db : Nat) (lv ov : Value) (i k : Nat) (xs : List Value) (l : Bytes) (w' : World) : Prop :=
  ∃ v1 ov' : Value, Bs w' (fun b => w.heap.size ≤ b ∧ ov'.ownBlock ≠ some b) v1 l ∧ w'.ownsRow 0 rWrite 2 ov' (k + 1) (xs ++ [.int .i64 i, v1]) ∧ Blk w ov ov' ∧ Mod (fun b => b = db ∨ ov.ownBlock = some b) w w' ∧ w'.heap[db]? = some (.cells #[lv, ov', .bool false] rDrive (0, 0))

set_option maxHeartbeats 1000000 in
set_option maxRecDepth 100000 in
theorem rput_walk (db n c i : Nat) (ao : Option Addr) (ov v : Value) (k : Nat) (xs : List Value) (l : Bytes) (S : Nat → Prop) (w : World)
    (hD : w.heap[db]? = some (.cells #[.slice ao n c, ov, .bool false] rDrive (0, 0))) (hi : i < n) (hown : w.ownsRow 0 rWrite 2 ov k xs) (hB : Bs w S v l) (hl : l.length ≤ 64) (hk : k ≤ 1000000000) (hne : ov.ownBlock ≠ some db) :
    Calls Try.prog 78 #[.pointer (some ⟨db, 0, none⟩), .int .i64 i, v] w fun e w' => e = .returned (.int .i64 0) ∧ WriteP w db (.slice ao n c) ov i k xs l w' := by
  have h0 : w.cell? ⟨db, 0, none⟩ = some (.slice ao n c) := blk_cell hD rfl
  have h1 : w.cell? ⟨db, 1, none⟩ = some ov := blk_cell hD rfl
  have h2 : w.cell? ⟨db, 2, none⟩ = some (.bool false) := blk_cell hD rfl
  have hf := blk_free hD 1
  have hdb := blk_lt hD
  obtain ⟨ao1, m1, k1, rfl⟩ : ∃ ao m k, v = .slice ao m k := by obtain ⟨ao, c, e, _⟩ := hB; exact ⟨ao, _, c, e⟩
  have hlen := hB.len
  obtain rfl : l.length = m1 := hlen
  have h64 : ¬ (64 : Int) < (l.length : Int) := by omega
  have HD := Lib.hid hD; clear hD
  obtain ⟨oa, on_, oc, rfl⟩ := own_shape hown
  have HN := Lib.hid hne; clear hne
  have HO := Lib.hid hown
  go_enter Try.func78, Try.ntmps78
  go_wp2_with (go_at_call 108; refine (rcheck_ok _ _ _ _ _ _ h0 h2 hi).mono ?_; rintro e w1 ⟨rfl, rfl⟩)
  have hBd := hB.drew
  have hod := own_drew hown
  clear hB hown
  go_region_law (first | (refine step_copy rfl _ _ _ rfl E28 hBd (by omega) rfl rfl ?_; intro v1 w1 hC hb hsz; obtain ⟨a2, c2, rfl⟩ := hC.shape; have hod1 := own_below hod hb; clear hod; have h1' := (hb.cell (p := ⟨db, 1, none⟩) (by simpa using hdb)).trans h1; have hdb1 := World.block_lt_of_cell? w1 _ h1'; simp only at hdb1) | (refine step_app_new rfl _ _ _ rfl E60 0 _ 1 (by assumption) rfl rfl rfl (by intro u hu; simp at hu; rcases hu with rfl | rfl <;> rfl) (by omega) (by decide) (by omega) ?_; intro v2 w2 hown2 hg2 _; have hD1 := (hb.block db hdb).trans HD.out; have hD2 := (hg2.by_.block db (blk_lt hD1) (Ne.symm HN.out)).trans hD1; have x1 : w2.cell? ⟨db, 1, none⟩ = some _ := blk_cell hD2 rfl; have x2 := blk_free hD2 1; obtain ⟨oa2, on2, oc2, rfl⟩ := own_shape hown2))
  all_goals
    have hb' : Below w.heap.size w w1 := ⟨hb.os, hb.tape, hb.output, hb.size, hb.block⟩
    have hov : ∀ g, (Value.slice oa on_ oc).ownBlock = some g → g < w.heap.size := fun g hg => (HO.out.lt g hg).2
    have hmA : Mod (fun b => b = db ∨ (Value.slice oa on_ oc).ownBlock = some b) w1 (w2.setCell ⟨db, 1, none⟩ (.slice oa2 on2 oc2)) :=
      ((Mod.refl _ w1).grown hg2.by_ (fun k hk _ => .inr hk)).setCell (p := ⟨db, 1, none⟩) (fun _ => .inl rfl) _
    have hmW := (Mod.of_below (fun b => b = db ∨ (Value.slice oa on_ oc).ownBlock = some b) hb').trans hmA
    have hbl : Blk w (.slice oa on_ oc) (.slice oa2 on2 oc2) := (Blk.refl _ _).trans hg2.blk hb'.size
    have hne2 : ∀ g, (Value.slice oa2 on2 oc2).ownBlock = some g → ¬ g = db := by
      intro g hg e
      subst e
      rcases hbl with h | ⟨g', h, h'⟩
      · exact HN.out (h ▸ hg)
      · rw [h] at hg; injection hg with hg; omega
    have hown3 := own_mod hown2 ((Mod.refl (fun b => b = db) w2).setCell (p := ⟨db, 1, none⟩) (fun _ => rfl) (.slice oa2 on2 oc2)) hne2
    have hC2 := hC.mono (T := fun b => w.heap.size ≤ b ∧ (Value.slice oa2 on2 oc2).ownBlock ≠ some b) (fun k hk h => ⟨h, fun e => by
      rcases hg2.blk with h' | ⟨g', h', hg'⟩
      · have := hov k (h' ▸ e); have h1' : w.heap.size ≤ k := h; omega
      · rw [h'] at e; injection e with e; omega⟩)
    have hC3 := hC2.kept hmA (fun k _ h1 h2 => by
      have h1' : w.heap.size ≤ k := h1.1
      rcases h2 with h2 | h2
      · omega
      · have := hov k h2; omega)
    have hD3 := blk_set hD2 1 (.slice oa2 on2 oc2)
    have R := Lib.hid (And.intro hC3 (And.intro hown3 (And.intro hbl (And.intro hmW hD3))))
    clear hC2 hC3 hown3 hbl hmW hD3 hne2 hmA hov hb' hC hown2 hg2 hb hod1 h1' x1 x2 hD1 hD2
    go_wp2
    go_ret
    exact ⟨rfl, _, _, R.out.1, R.out.2.1, R.out.2.2.1, R.out.2.2.2.1, R.out.2.2.2.2⟩
end Go.Proofs.Fr

namespace Go.Proofs.Fr
open Go.RowKit Go.Proofs.Fl

theorem rdrive_get {w : World} {F : Nat → Prop} {db : Nat} {d : DM} (h : DriveAt w F db d) (i : Nat) (hi : i < d.cap) (hk : d.loose.length ≤ 1000000000) :
    Calls Try.prog 81 #[.pointer (some ⟨db, 0, none⟩), .int .i64 i] w fun e w' => (∃ v', e = .returned v' ∧ Bs w F v' (d.get i)) ∧ w = w' := by
  unfold DM.cap at hi
  rcases h.is with ⟨h1, h2, h3, h4, h5⟩ | ⟨h1, lb, ov, lvs, ovs, hl⟩
  · rw [h2] at hi; simp at hi
  · obtain ⟨ao, cap, ob, hov, hao⟩ := hl.oao
    refine (rget_walk db lb ob d.lasts.length cap d.lasts.length i ao (lvs.getD i undef) (d.lasts.getD i []) (Im F db lb ov) d.loose (fun j => (ovs.getD j (0, undef)).2) w (blk_cell hl.blk rfl) (by rw [← hov]; exact blk_cell hl.blk rfl) hi
      (blk_cell hl.row (by simp [List.getD_eq_getElem?_getD, hl.len, hi])) (hl.at_ i hi).1 (fun j hj => ?_) hk (fun h0 => (hao h0).1)).mono ?_
    · obtain ⟨x1, x2, x3, x4⟩ := hl.oat j hj
      obtain ⟨c1, c2⟩ := hl.ocell (hao (by omega)).2 j hj
      exact ⟨x3, by rw [← x1]; exact c1, c2⟩
    · rintro e w' ⟨⟨v', rfl, hv⟩, rfl⟩
      exact ⟨⟨v', rfl, hv.mono fun b _ h => h.1⟩, rfl⟩

theorem rdrive_put {w : World} {F S : Nat → Prop} {db : Nat} {d : DM} (h : DriveAt w F db d) (i : Nat) (hi : i < d.cap) (hk : d.loose.length ≤ 1000000000) {v : Value} {l : Bytes} (hB : Bs w S v l) (hl64 : l.length ≤ 64) :
    Calls Try.prog 78 #[.pointer (some ⟨db, 0, none⟩), .int .i64 i, v] w fun e w' => e = .returned (.int .i64 0) ∧ DStep w F db (d.put i l) w' := by
  unfold DM.cap at hi
  rcases h.is with ⟨h1, h2, h3, h4, h5⟩ | ⟨h1, lb, ov, lvs, ovs, hl⟩
  · rw [h2] at hi; simp at hi
  · refine (rput_walk db _ _ i _ ov v d.loose.length (wcells ovs) l S w hl.blk hi hl.own hB hl64 hk (fun e => (hl.ownF db e).2.1 rfl)).mono ?_
    rintro e w' ⟨rfl, v1, ov', hv1, hown, hblk, hmod, hD⟩
    have hTF : ∀ b, (b = db ∨ ov.ownBlock = some b) → F b := fun b hb => by
      rcases hb with rfl | hb
      · exact hl.fdb
      · exact (hl.ownF b hb).1
    have hov' : ∀ g, ov'.ownBlock = some g → ov.ownBlock = some g ∨ (w.heap.size ≤ g ∧ g < w'.heap.size) := fun g hg => by
      rcases hblk with e | ⟨g', e, hg'⟩
      · exact .inl (e ▸ hg)
      · rw [e] at hg; injection hg with hg; subst hg
        exact .inr ⟨hg', (hown.lt _ e).2⟩
    refine ⟨rfl, ⟨hmod.mono fun k _ hk => hTF k hk, ⟨fun b hb => ?_, .inr ⟨h1, lb, ov', lvs, ovs ++ [(i, v1)], ?_⟩⟩⟩⟩
    · rcases hb with hb | hb
      · exact Nat.lt_of_lt_of_le (h.here b hb) hmod.size
      · exact hb.2
    · have him : ∀ k, k < w.heap.size → Im F db lb ov k → Im (Ext F w w') db lb ov' k := fun k hk hi' => by
        refine ⟨.inl hi'.1, hi'.2.1, hi'.2.2.1, fun e => ?_⟩
        rcases hov' k e with h | h
        · exact hi'.2.2.2 h
        · omega
      have hnT : ∀ k, Im F db lb ov k → ¬ (k = db ∨ ov.ownBlock = some k) := fun k hk h => by
        rcases h with h | h
        · exact hk.2.1 h
        · exact hk.2.2.2 h
      have hcar : ∀ {u : Value} {m : Bytes}, Bs w (Im F db lb ov) u m → Bs w' (Im (Ext F w w') db lb ov') u m := fun {u m} hu =>
        (hu.mono (T := fun k => Im F db lb ov k ∧ k < w.heap.size) fun k hk h => ⟨h, hk⟩).kept hmod (fun k _ hk => hnT k hk.1) |>.mono fun k _ hk => him k hk.2 hk.1
      have hdb := h.here db hl.fdb
      have hlb := h.here lb hl.flb
      have hnew : Bs w' (Im (Ext F w w') db lb ov') v1 l := hv1.mono fun k hk h => ⟨.inr ⟨h.1, hk⟩, by omega, by omega, h.2⟩
      exact {
        blk := hD
        row := blk_mod hmod hl.row (fun h => by
          rcases h with h | h
          · exact hl.ne h
          · exact (hl.ownF _ h).2.2 rfl)
        fdb := .inl hl.fdb
        flb := .inl hl.flb
        ne := hl.ne
        own := by
          have e : wcells (ovs ++ [(i, v1)]) = wcells ovs ++ [.int .i64 i, v1] := by simp [wcells]
          rw [e]; simpa [DM.put] using hown
        ownF := fun g hg => by
          rcases hov' g hg with h' | h'
          · exact ⟨.inl (hl.ownF g h').1, (hl.ownF g h').2⟩
          · exact ⟨.inr h', by omega, by omega⟩
        len := hl.len
        olen := by simp [DM.put, hl.olen]
        at_ := fun j hj => ⟨hcar (hl.at_ j hj).1, (hl.at_ j hj).2⟩
        oat := fun j hj => by
          have hj' : j < d.loose.length + 1 := by simpa [DM.put] using hj
          simp only [DM.put]
          rw [getD_append_one _ _ _ _ (by rw [hl.olen]; exact hj'), getD_append_one _ _ _ _ hj', hl.olen]
          by_cases e : j = d.loose.length
          · rw [if_pos e, if_pos e]; exact ⟨rfl, hi, hnew, hl64⟩
          · rw [if_neg e, if_neg e]
            obtain ⟨x1, x2, x3, x4⟩ := hl.oat j (by omega)
            exact ⟨x1, x2, hcar x3, x4⟩
        few := hl.few }

set_option maxHeartbeats 800000 in
set_option maxRecDepth 100000 in
theorem rflush_walk (db lb ob n k cap c : Nat) (ao0 : Option Addr) (cs : List Value) (ws : List (Nat × Value)) (w : World)
    (hD : w.heap[db]? = some (.cells #[.slice (some ⟨lb, 0, none⟩) n c, .slice ao0 k cap, .bool false] rDrive (0, 0)))
    (hl : w.heap[lb]? = some (.cells cs.toArray tBytes (0, 0))) (hcs : cs.length = n) (hk : ws.length = k)
    (hw : ∀ j, j < k → (ws.getD j (0, undef)).1 < n ∧ (∃ ao m k, (ws.getD j (0, undef)).2 = .slice ao m k) ∧ w.cell? ⟨ob, j * 2, none⟩ = some (.int .i64 ((ws.getD j (0, undef)).1 : Int)) ∧ w.cell? ⟨ob, j * 2 + 1, none⟩ = some (ws.getD j (0, undef)).2)
    (hne1 : lb ≠ db) (hne2 : lb ≠ ob) (hkm : k ≤ 1000000000) (hao : 0 < k → ao0 = some ⟨ob, 0, none⟩) :
    Calls Try.prog 82 #[.pointer (some ⟨db, 0, none⟩)] w fun e w' => e = .returned (.int .i64 0) ∧ Mod (fun b => b = db ∨ b = lb) w w' ∧
      w'.heap[lb]? = some (.cells (runW (fun _ => true) ws (0, undef) k cs).toArray tBytes (0, 0)) ∧
      w'.heap[db]? = some (.cells #[.slice (some ⟨lb, 0, none⟩) n c, .slice none 0 0, .bool false] rDrive (0, 0)) := by
  have h0 : w.cell? ⟨db, 0, none⟩ = some (.slice (some ⟨lb, 0, none⟩) n c) := blk_cell hD rfl
  have h1 : w.cell? ⟨db, 1, none⟩ = some (.slice ao0 k cap) := blk_cell hD rfl
  have h2 : w.cell? ⟨db, 2, none⟩ = some (.bool false) := blk_cell hD rfl
  have hf := blk_free hD 1
  have HD := Lib.hid hD; clear hD
  go_enter Try.func82, Try.ntmps82
  go_wp2
  subst hk
  go_loopw [3] (fun i wr => ∃ j : Nat, j ≤ ws.length ∧ i = .int .i64 j ∧ Mod (fun b => b = lb) w wr ∧ wr.heap[lb]? = some (.cells (runW (fun _ => true) ws (0, undef) j cs).toArray tBytes (0, 0)))
    (fun i _ => ws.length - (intOf i).toNat)
  case atStart => exact ⟨0, by omega, rfl, Mod.refl _ _, hl⟩
  case round =>
    obtain ⟨j, hj, rfl, hm, hlr⟩ := hrel
    have k0 := (hm.cell (p := ⟨db, 0, none⟩) (World.block_lt_of_cell? w _ h0) hne1.symm).trans h0
    have k1 := (hm.cell (p := ⟨db, 1, none⟩) (World.block_lt_of_cell? w _ h1) hne1.symm).trans h1
    have k1f := (hm.frozen (p := ⟨db, 1, none⟩) (World.block_lt_of_cell? w _ h1) hne1.symm).trans hf
    clear h0 h1 h2 hf hl
    by_cases hlt : j < ws.length
    · obtain rfl := hao (by omega)
      obtain ⟨w1, ⟨ao, m, c', w2⟩, w3, w4⟩ := hw j hlt
      have hob := World.block_lt_of_cell? w _ w3
      have c1 := (hm.cell (p := ⟨ob, j * 2, none⟩) hob hne2.symm).trans w3
      have c2 := (hm.cell (p := ⟨ob, j * 2 + 1, none⟩) hob hne2.symm).trans w4
      clear w3 w4 hob
      have HW := Lib.hid hw; have HC := Lib.hid hcs; clear hw hcs
      have e2 : runW (fun _ => true) ws (0, undef) (j + 1) cs = (runW (fun _ => true) ws (0, undef) j cs).set (ws.getD j (0, undef)).1 (ws.getD j (0, undef)).2 := by simp [runW]
      have E2 := Lib.hid e2; clear e2
      generalize ws.getD j (0, undef) = pr at *
      obtain ⟨sl, bv⟩ := pr
      simp only at w1 w2 c1 c2 E2
      subst w2
      have hin : sl < (runW (fun _ => true) ws (0, undef) j cs).length := by rw [runW_length, HC.out]; exact w1
      obtain ⟨z, hz⟩ : ∃ z, wr.cell? ⟨lb, sl, none⟩ = some z := ⟨_, blk_cell hlr (Array.getElem?_eq_getElem (by simpa using hin))⟩
      have f1 := blk_free hlr sl
      have HLR := Lib.hid hlr
      have hji : (j : Int) < (ws.length : Int) := by omega
      have hsi : (sl : Int) < (n : Int) := by omega
      have hm3 : Mod (fun b => b = lb) w (wr.drew.setCell ⟨lb, sl, none⟩ (.slice ao m c')) := hm.drew.setCell (p := ⟨lb, sl, none⟩) (fun _ => rfl) _
      have hl3 : (wr.drew.setCell ⟨lb, sl, none⟩ (.slice ao m c')).heap[lb]? = some (.cells (runW (fun _ => true) ws (0, undef) (j + 1) cs).toArray tBytes (0, 0)) := by
        rw [E2.out]
        have := blk_set (w := wr.drew) HLR.out sl (.slice ao m c')
        rw [this]; simp
      have HM3 := Lib.hid hm3; have HL3 := Lib.hid hl3
      clear hlr hin hm3 hl3 E2 HLR hm
      go_wp2
      go_big_region
      go_wp2
      go_roundw
      case rel => exact ⟨j + 1, by omega, by go_num, HM3.out, HL3.out⟩
      case measure => simp [intOf]; omega
    · obtain rfl : j = ws.length := by omega
      have hm' : Mod (fun b => b = db ∨ b = lb) w wr := hm.mono fun _ _ h => .inr h
      have hD' := blk_mod hm HD.out (Ne.symm hne1)
      have HLR := Lib.hid hlr; have HD' := Lib.hid hD'; clear hlr hD'
      go_wp2
      go_ret
      refine ⟨rfl, hm'.setCell (p := ⟨db, 1, none⟩) (fun _ => .inl rfl) _, ?_, blk_set HD'.out 1 _⟩
      rw [Below.heap_setCell _ _ _ _ (by exact hne1)]
      exact HLR.out
end Go.Proofs.Fr

namespace Go.Proofs.Fr
open Go.RowKit Go.Proofs.Fl

theorem sel_yes (x j : Nat) (h : crashSel x j = true) : (j : Int) < 64 ∧ ((x : Int) / 2 ^ j).tmod 2 = 1 := by
  unfold crashSel at h
  simp only [Bool.and_eq_true, decide_eq_true_eq] at h
  refine ⟨by omega, ?_⟩
  have h1 : (x : Int) / 2 ^ j = ((x / 2 ^ j : Nat) : Int) := by simp
  have h2 := h.2
  rw [Nat.testBit_eq_decide_div_mod_eq] at h2
  have h3 : x / 2 ^ j % 2 = 1 := of_decide_eq_true h2
  rw [h1, Int.tmod_eq_emod_of_nonneg (Int.natCast_nonneg _)]; omega
theorem sel_no (x j : Nat) (h : ¬ crashSel x j = true) (hj : j < 64) : ((x : Int) / 2 ^ j).tmod 2 = 0 := by
  unfold crashSel at h
  have h1 : (x : Int) / 2 ^ j = ((x / 2 ^ j : Nat) : Int) := by simp
  have h2 : x.testBit j = false := by
    cases hb : x.testBit j
    · rfl
    · exact absurd (by simp [hj, hb]) h
  rw [Nat.testBit_eq_decide_div_mod_eq] at h2
  have h3 : ¬ x / 2 ^ j % 2 = 1 := of_decide_eq_false h2
  rw [h1, Int.tmod_eq_emod_of_nonneg (Int.natCast_nonneg _)]; omega

set_option maxHeartbeats 800000 in
set_option maxRecDepth 100000 in
theorem rcrash_walk (db lb ob n k cap c : Nat) (ao0 : Option Addr) (x : Nat) (bl : Bool) (hx : x ≤ 18446744073709551615) (cs : List Value) (ws : List (Nat × Value)) (w : World)
    (hD : w.heap[db]? = some (.cells #[.slice (some ⟨lb, 0, none⟩) n c, .slice ao0 k cap, .bool bl] rDrive (0, 0)))
    (hl : w.heap[lb]? = some (.cells cs.toArray tBytes (0, 0))) (hcs : cs.length = n) (hk : ws.length = k)
    (hw : ∀ j, j < k → (ws.getD j (0, undef)).1 < n ∧ (∃ ao m k, (ws.getD j (0, undef)).2 = .slice ao m k) ∧ w.cell? ⟨ob, j * 2, none⟩ = some (.int .i64 ((ws.getD j (0, undef)).1 : Int)) ∧ w.cell? ⟨ob, j * 2 + 1, none⟩ = some (ws.getD j (0, undef)).2)
    (hne1 : lb ≠ db) (hne2 : lb ≠ ob) (hkm : k ≤ 1000000000) (hao : 0 < k → ao0 = some ⟨ob, 0, none⟩) :
    Calls Try.prog 83 #[.pointer (some ⟨db, 0, none⟩), .int .u64 x] w fun e w' => e = .returned (.tuple #[]) ∧ Mod (fun b => b = db ∨ b = lb) w w' ∧
      w'.heap[lb]? = some (.cells (runW (crashSel x) ws (0, undef) k cs).toArray tBytes (0, 0)) ∧
      w'.heap[db]? = some (.cells #[.slice (some ⟨lb, 0, none⟩) n c, .slice none 0 0, .bool bl] rDrive (0, 0)) := by
  have h0 : w.cell? ⟨db, 0, none⟩ = some (.slice (some ⟨lb, 0, none⟩) n c) := blk_cell hD rfl
  have h1 : w.cell? ⟨db, 1, none⟩ = some (.slice ao0 k cap) := blk_cell hD rfl
  have h2 : w.cell? ⟨db, 2, none⟩ = some (.bool bl) := blk_cell hD rfl
  have hf := blk_free hD 1
  have HD := Lib.hid hD; clear hD
  have HX := Lib.hid hx; clear hx
  go_enter Try.func83, Try.ntmps83
  go_wp2
  subst hk
  go_loopw [4] (fun i wr => ∃ j : Nat, j ≤ ws.length ∧ i = .int .i64 j ∧ Mod (fun b => b = lb) w wr ∧ wr.heap[lb]? = some (.cells (runW (crashSel x) ws (0, undef) j cs).toArray tBytes (0, 0)))
    (fun i _ => ws.length - (intOf i).toNat)
  case atStart => exact ⟨0, by omega, rfl, Mod.refl _ _, hl⟩
  case round =>
    obtain ⟨j, hj, rfl, hm, hlr⟩ := hrel
    have k0 := (hm.cell (p := ⟨db, 0, none⟩) (World.block_lt_of_cell? w _ h0) hne1.symm).trans h0
    have k1 := (hm.cell (p := ⟨db, 1, none⟩) (World.block_lt_of_cell? w _ h1) hne1.symm).trans h1
    have k1f := (hm.frozen (p := ⟨db, 1, none⟩) (World.block_lt_of_cell? w _ h1) hne1.symm).trans hf
    clear h0 h1 h2 hf hl
    by_cases hlt : j < ws.length
    · obtain rfl := hao (by omega)
      obtain ⟨w1, ⟨ao, m, c', w2⟩, w3, w4⟩ := hw j hlt
      have hob := World.block_lt_of_cell? w _ w3
      have c1 := (hm.cell (p := ⟨ob, j * 2, none⟩) hob hne2.symm).trans w3
      have c2 := (hm.cell (p := ⟨ob, j * 2 + 1, none⟩) hob hne2.symm).trans w4
      clear w3 w4 hob
      have HW := Lib.hid hw; have HC := Lib.hid hcs; clear hw hcs
      have e2 : runW (crashSel x) ws (0, undef) (j + 1) cs = if crashSel x j then (runW (crashSel x) ws (0, undef) j cs).set (ws.getD j (0, undef)).1 (ws.getD j (0, undef)).2 else runW (crashSel x) ws (0, undef) j cs := by simp [runW]
      generalize ws.getD j (0, undef) = pr at *
      obtain ⟨sl, bv⟩ := pr
      simp only at w1 w2 c1 c2 e2
      subst w2
      have hji : (j : Int) < (ws.length : Int) := by omega
      by_cases hsel : crashSel x j = true
      · rw [if_pos hsel] at e2
        have E2 := Lib.hid e2; clear e2
        have hin : sl < (runW (crashSel x) ws (0, undef) j cs).length := by rw [runW_length, HC.out]; exact w1
        obtain ⟨z, hz⟩ : ∃ z, wr.cell? ⟨lb, sl, none⟩ = some z := ⟨_, blk_cell hlr (Array.getElem?_eq_getElem (by simpa using hin))⟩
        have f1 := blk_free hlr sl
        have HLR := Lib.hid hlr
        have hsi : (sl : Int) < (n : Int) := by omega
        have hm3 : Mod (fun b => b = lb) w (wr.drew.setCell ⟨lb, sl, none⟩ (.slice ao m c')) := hm.drew.setCell (p := ⟨lb, sl, none⟩) (fun _ => rfl) _
        have hl3 : (wr.drew.setCell ⟨lb, sl, none⟩ (.slice ao m c')).heap[lb]? = some (.cells (runW (crashSel x) ws (0, undef) (j + 1) cs).toArray tBytes (0, 0)) := by
          rw [E2.out]
          have := blk_set (w := wr.drew) HLR.out sl (.slice ao m c')
          rw [this]; simp
        have hs2 := sel_yes x j hsel
        have hj' := hs2.1
        have hbt := hs2.2
        have HM3 := Lib.hid hm3; have HL3 := Lib.hid hl3
        clear hlr hin hm3 hl3 E2 HLR hm hsel hs2
        go_wp2
        go_big_region
        go_wp2
        go_roundw
        case rel => exact ⟨j + 1, by omega, by go_num, HM3.out, HL3.out⟩
        case measure => simp [intOf]; omega
      · rw [if_neg hsel] at e2
        have E2 := Lib.hid e2; clear e2
        have HM3 := Lib.hid hm
        have hlr3 : wr.heap[lb]? = some (.cells (runW (crashSel x) ws (0, undef) (j + 1) cs).toArray tBytes (0, 0)) := by rw [E2.out]; exact hlr
        have HL3 := Lib.hid hlr3
        have hs2 := sel_no x j hsel
        clear hlr hlr3 E2 hm hsel c1 c2
        by_cases hj64 : j < 64
        · have hbt := hs2 hj64
          have hj' : (j : Int) < 64 := by omega
          clear hs2 hj64
          go_wp2
          go_roundw
          case rel => exact ⟨j + 1, by omega, by go_num, HM3.out, HL3.out⟩
          case measure => simp [intOf]; omega
        · have hj' : ¬ (j : Int) < 64 := by omega
          clear hs2 hj64
          go_wp2
          go_roundw
          case rel => exact ⟨j + 1, by omega, by go_num, HM3.out, HL3.out⟩
          case measure => simp [intOf]; omega
    · obtain rfl : j = ws.length := by omega
      have hm' : Mod (fun b => b = db ∨ b = lb) w wr := hm.mono fun _ _ h => .inr h
      have hD' := blk_mod hm HD.out (Ne.symm hne1)
      have HLR := Lib.hid hlr; have HD' := Lib.hid hD'; clear hlr hD'
      go_wp2
      go_end0
      refine ⟨rfl, hm'.setCell (p := ⟨db, 1, none⟩) (fun _ => .inl rfl) _, ?_, blk_set HD'.out 1 _⟩
      rw [Below.heap_setCell _ _ _ _ (by exact hne1)]
      exact HLR.out
end Go.Proofs.Fr

namespace Go.Proofs.Fr
open Go.RowKit Go.Proofs.Fl

theorem rdrive_flush {w : World} {F : Nat → Prop} {db : Nat} {d : DM} (h : DriveAt w F db d) (hlive : d.lost = false) (hk : d.loose.length ≤ 1000000000) :
    Calls Try.prog 82 #[.pointer (some ⟨db, 0, none⟩)] w fun e w' => e = .returned (.int .i64 0) ∧ DStep w F db (d.keep fun _ => true) w' := by
  rcases h.is with ⟨h1, h2, h3, h4, h5⟩ | ⟨h1, lb, ov, lvs, ovs, hl⟩
  · rw [h1] at hlive; cases hlive
  · obtain ⟨ao, cap, ob, hov, hao⟩ := hl.oao
    obtain ⟨ob', hne', hao'⟩ := hl.lbob (fun h0 => (hao h0).2)
    refine (rflush_walk db lb ob' d.lasts.length d.loose.length cap d.lasts.length ao lvs ovs w (by rw [← hov]; exact hl.blk) hl.row hl.len hl.olen (hl.wrs hao') hl.ne hne' hk (fun h0 => ?_)).mono ?_
    · have e1 := hao' h0
      have e2 := (hao h0)
      rw [e2.2] at e1; injection e1 with e1
      rw [e2.1, e1]
    · rintro e w' ⟨rfl, hm, hlr, hD⟩
      exact ⟨rfl, keep_live h.here hl h1 _ hm hlr hD⟩

set_option maxHeartbeats 400000 in
set_option maxRecDepth 100000 in
theorem rcrash_lost (db : Nat) (x : Nat) (w : World) (hD : w.heap[db]? = some (.cells #[.slice none 0 0, .slice none 0 0, .bool true] rDrive (0, 0))) :
    Calls Try.prog 83 #[.pointer (some ⟨db, 0, none⟩), .int .u64 x] w fun e w' => e = .returned (.tuple #[]) ∧ Mod (fun b => b = db) w w' ∧ w'.heap[db]? = some (.cells #[.slice none 0 0, .slice none 0 0, .bool true] rDrive (0, 0)) := by
  have h1 : w.cell? ⟨db, 1, none⟩ = some (.slice none 0 0) := blk_cell hD rfl
  have f1 := blk_free hD 1
  have HD := Lib.hid hD; clear hD
  go_enter Try.func83, Try.ntmps83
  go_wp2
  go_loop [4] (fun i => i = .int .i64 0) (fun _ => 0)
  case atStart => rfl
  case round =>
    subst hrel
    go_wp2
    go_end0
    exact ⟨rfl, (Mod.refl (fun b => b = db) w).setCell (p := ⟨db, 1, none⟩) (fun _ => rfl) _, blk_set HD.out 1 _⟩

theorem rdrive_crash {w : World} {F : Nat → Prop} {db : Nat} {d : DM} (h : DriveAt w F db d) (x : Nat) (hx : x ≤ 18446744073709551615) (hk : d.loose.length ≤ 1000000000) :
    Calls Try.prog 83 #[.pointer (some ⟨db, 0, none⟩), .int .u64 x] w fun e w' => e = .returned (.tuple #[]) ∧ DStep w F db (d.keep (crashSel x)) w' := by
  rcases h.is with ⟨h1, h2, h3, h4, h5⟩ | ⟨h1, lb, ov, lvs, ovs, hl⟩
  · refine (rcrash_lost db x w h5).mono ?_
    rintro e w' ⟨rfl, hm, hD'⟩
    refine ⟨rfl, ⟨hm.mono fun k _ hk => hk ▸ h4, ⟨fun b hb => ?_, .inl ⟨h1, by simp [DM.keep, h2, h3, runW], rfl, .inl h4, hD'⟩⟩⟩⟩
    rcases hb with hb | hb
    · exact Nat.lt_of_lt_of_le (h.here b hb) hm.size
    · exact hb.2
  · obtain ⟨ao, cap, ob, hov, hao⟩ := hl.oao
    obtain ⟨ob', hne', hao'⟩ := hl.lbob (fun h0 => (hao h0).2)
    refine (rcrash_walk db lb ob' d.lasts.length d.loose.length cap d.lasts.length ao x false hx lvs ovs w (by rw [← hov]; exact hl.blk) hl.row hl.len hl.olen (hl.wrs hao') hl.ne hne' hk (fun h0 => ?_)).mono ?_
    · have e1 := hao' h0
      have e2 := (hao h0)
      rw [e2.2] at e1; injection e1 with e1
      rw [e2.1, e1]
    · rintro e w' ⟨rfl, hm, hlr, hD⟩
      exact ⟨rfl, keep_live h.here hl h1 _ hm hlr hD⟩

set_option maxHeartbeats 400000 in
set_option maxRecDepth 100000 in
theorem rburn_walk (pb : Nat) (lv : Value) (f : Int) (d : Bool) (w : World) (hb : w.heap[pb]? = some (.cells #[lv, .int .i64 f, .bool d] rPool (0, 0))) (hf1 : -1 ≤ f) (hf2 : f ≤ 9223372036854775807) :
    Calls Try.prog 77 #[.pointer (some ⟨pb, 0, none⟩)] w fun e w' => e = .returned (.bool (!(d || f == 0))) ∧ BurnP pb lv (if d || f == 0 then f else if 0 < f then f - 1 else f) (d || f == 0) w w' := by
  have h1 : w.cell? ⟨pb, 1, none⟩ = some (.int .i64 f) := blk_cell hb rfl
  have h2 : w.cell? ⟨pb, 2, none⟩ = some (.bool d) := blk_cell hb rfl
  have f1 := blk_free hb 1
  have f2 := blk_free hb 2
  have HB := Lib.hid hb; clear hb
  cases d with
  | true =>
    simp only [Bool.true_or, if_true, Bool.not_true]
    go_enter Try.func77, Try.ntmps77
    go_wp2
    go_ret
    exact ⟨rfl, (Mod.refl (fun b => b = pb) w).setCell (p := ⟨pb, 2, none⟩) (fun _ => rfl) _, blk_set HB.out 2 _⟩
  | false =>
    by_cases h0 : f = 0
    · subst h0
      simp only [beq_self_eq_true, Bool.or_true, if_true, Bool.not_true]
      go_enter Try.func77, Try.ntmps77
      go_wp2
      go_ret
      exact ⟨rfl, (Mod.refl (fun b => b = pb) w).setCell (p := ⟨pb, 2, none⟩) (fun _ => rfl) _, blk_set HB.out 2 _⟩
    · have h0' : (f == 0) = false := by simpa using h0
      simp only [h0', Bool.or_false, Bool.false_eq_true, if_false, Bool.not_false]
      by_cases hp : 0 < f
      · rw [if_pos hp]
        go_enter Try.func77, Try.ntmps77
        go_wp2
        go_ret
        exact ⟨rfl, (Mod.refl (fun b => b = pb) w).setCell (p := ⟨pb, 1, none⟩) (fun _ => rfl) _, blk_set HB.out 1 _⟩
      · rw [if_neg hp]
        have HF := Lib.hid hf2; clear hf2
        go_enter Try.func77, Try.ntmps77
        go_wp2
        go_ret
        exact ⟨rfl, Mod.refl _ _, HB.out⟩

theorem rpool_burn {w : World} {F : Nat → Prop} {pb : Nat} {lv : Value} {dbs : List Nat} {G : Nat → Nat → Prop} {m : PM} (h : PoolIn w F pb lv dbs G m) :
    Calls Try.prog 77 #[.pointer (some ⟨pb, 0, none⟩)] w fun e w' => e = .returned (.bool m.burn.1) ∧ Mod (fun b => b = pb) w w' ∧ PoolIn w' F pb lv dbs G m.burn.2 := by
  refine (rburn_walk pb lv m.fuse m.down w h.blk h.fuse1 h.fuse2).mono ?_
  rintro e w' ⟨rfl, hm, hb⟩
  have h1 := h.fuse1; have h2 := h.fuse2
  unfold PM.burn
  cases hd : m.down with
  | true =>
    simp only [hd, Bool.true_or, if_true, Bool.not_true] at hb ⊢
    rw [if_pos (.inl trivial)]
    exact ⟨rfl, hm, h.head hm _ _ hb h1 h2⟩
  | false =>
    by_cases h0 : m.fuse = 0
    · simp only [hd, h0, beq_self_eq_true, Bool.or_true, if_true, Bool.not_true] at hb ⊢
      rw [if_pos (.inr trivial)]
      exact ⟨rfl, hm, h.head hm _ _ hb (by omega) (by omega)⟩
    · have h0' : (m.fuse == 0) = false := by simpa using h0
      simp only [hd, h0', Bool.or_false, Bool.false_eq_true, if_false, Bool.not_false] at hb ⊢
      rw [if_neg (by simp [h0])]
      by_cases hp : 0 < m.fuse
      · rw [if_pos hp] at hb ⊢
        have := h.head hm _ _ hb (by omega) (by omega)
        exact ⟨rfl, hm, this⟩
      · rw [if_neg hp] at hb ⊢
        have := h.head hm _ _ hb h1 h2
        rw [← hd] at this
        exact ⟨rfl, hm, this⟩


theorem DriveAt.cells {w : World} {F : Nat → Prop} {db : Nat} {d : DM} (h : DriveAt w F db d) : ∃ ao c, w.cell? ⟨db, 0, none⟩ = some (.slice ao d.cap c) ∧ w.cell? ⟨db, 2, none⟩ = some (.bool d.lost) := by
  rcases h.is with ⟨h1, h2, h3, h4, h5⟩ | ⟨h1, lb, ov, lvs, ovs, hl⟩
  · exact ⟨none, 0, by rw [show d.cap = 0 from by unfold DM.cap; rw [h2]; rfl]; exact blk_cell h5 rfl, by rw [h1]; exact blk_cell h5 rfl⟩
  · exact ⟨_, _, blk_cell hl.blk rfl, by rw [h1]; exact blk_cell hl.blk rfl⟩

set_option maxHeartbeats 400000 in
set_option maxRecDepth 100000 in
theorem ruse_any {w : World} {F : Nat → Prop} {pb : Nat} {lv : Value} {dbs : List Nat} {G : Nat → Nat → Prop} {m : PM} (h : PoolIn w F pb lv dbs G m) (n : Int) :
    Calls Try.prog 40 #[.pointer (some ⟨pb, 0, none⟩), .int .i64 n] w fun e w' => e = .returned (.int .i64 (m.use n)) ∧ w = w' := by
  unfold PM.use
  obtain ⟨ao, ln, cap, rfl⟩ := own_shape h.own
  have hln : ln = m.list.length := own_len h.own
  subst hln
  have h0 : w.cell? ⟨pb, 0, none⟩ = some (.slice ao m.list.length cap) := blk_cell h.blk rfl
  by_cases hn : n < 0
  · rw [if_neg (by omega)]
    clear h
    go_enter Try.func40, Try.ntmps40
    go_wp2
    go_ret
    exact ⟨rfl, rfl⟩
  · obtain ⟨k, rfl⟩ : ∃ k : Nat, n = k := ⟨n.toNat, by omega⟩
    have hn' : ¬ (k : Int) < 0 := by omega
    by_cases hk : k < m.list.length
    · rw [if_pos (by omega)]
      obtain ⟨ao', cap', ob, e1, rfl, e3⟩ := h.cell k hk
      injection e1 with e1 e2 e4
      subst e1
      subst e4
      obtain ⟨sa, sc, q0, q2⟩ := (h.at_ k hk).cells
      rw [show ((k : Int)).toNat = k from rfl]
      have hk' : ¬ (m.list.length : Int) ≤ (k : Int) := by omega
      have hk2 : (k : Int) < (m.list.length : Int) := by omega
      generalize m.list.getD k dNone = d at *
      generalize dbs.getD k 0 = db at *
      cases hlo : d.lost with
      | true =>
        rw [hlo] at q2
        clear h hlo
        go_enter Try.func40, Try.ntmps40
        go_wp2
        go_ret
        exact ⟨rfl, rfl⟩
      | false =>
        rw [hlo] at q2
        clear h hlo
        go_enter Try.func40, Try.ntmps40
        go_wp2
        go_ret
        exact ⟨rfl, rfl⟩
    · rw [if_neg (by omega)]
      have hk' : (m.list.length : Int) ≤ (k : Int) := by omega
      clear h
      go_enter Try.func40, Try.ntmps40
      go_wp2
      go_ret
      exact ⟨rfl, rfl⟩
end Go.Proofs.Fr

namespace Go.Proofs.Fr
open Go.RowKit Go.Proofs.Fl

theorem ropen_none {S : Nat → Prop} {v : Value} {l : Bytes} {w : World} (hB : Bs w S v l) (hn : l.length ≤ 1000000) (h : openF l = none) :
    Calls Try.prog 80 #[v] w fun e w' => e = .returned (.tuple #[.int .i64 0, .int .i64 0, .slice none 0 0, .bool false]) ∧ Below w.heap.size w w' := by
  refine (ropen_any hB hn).mono ?_
  rintro e w' ⟨v', rfl, ho, hb⟩
  rw [h] at ho
  exact ⟨by rw [ho], hb⟩
theorem ropen_some {S : Nat → Prop} {v : Value} {l : Bytes} {w : World} (hB : Bs w S v l) (hn : l.length ≤ 1000000) {s p : Nat} {b : Bytes} (h : openF l = some (s, p, b)) :
    Calls Try.prog 80 #[v] w fun e w' => ∃ bv, e = .returned (.tuple #[.int .i64 s, .int .i64 p, bv, .bool true]) ∧ Bs w' S bv b ∧ Below w.heap.size w w' := by
  refine (ropen_any hB hn).mono ?_
  rintro e w' ⟨v', rfl, ho, hb⟩
  rw [h] at ho
  obtain ⟨bv, rfl, hv⟩ := ho
  exact ⟨bv, rfl, hv, hb⟩
/-- What find asks of a slot. -/
def rqB (S K : Int) (l : Bytes) : Bool :=
  match openF l with
  | none => decide (S < 0)
  | some (s, p, _) => ((s : Int) == S) && ((p : Int) == K)
theorem rqB_has {S K : Int} (h : 0 ≤ S) : rqB S K = hasB S K := by
  funext l
  unfold rqB hasB
  cases openF l with
  | none => show decide (S < 0) = false; exact decide_eq_false (by omega)
  | some r => rfl
theorem rqB_free : rqB (-1) 0 = fun l => (openF l).isNone := by
  funext l
  unfold rqB
  cases openF l with
  | none => rfl
  | some r =>
    obtain ⟨s, p, b⟩ := r
    have : ((s : Int) == -1) = false := beq_eq_false_iff_ne.2 (by omega)
    simp only [this, Bool.false_and, Option.isNone_some]

set_option maxHeartbeats 1000000 in
set_option maxRecDepth 100000 in
theorem rfind_any {w : World} {F : Nat → Prop} {pb : Nat} {lv : Value} {dbs : List Nat} {G : Nat → Nat → Prop} {m : PM} (h : PoolIn w F pb lv dbs G m) (i : Nat) (hi : i < m.list.length) (hk : (m.get i).loose.length ≤ 1000000000) (S K : Int) :
    Calls Try.prog 76 #[.pointer (some ⟨pb, 0, none⟩), .int .i64 i, .int .i64 S, .int .i64 K] w fun e w' => e = .returned (.int .i64 (idxV (firstIn (fun j => rqB S K ((m.get i).get j)) (m.get i).cap))) ∧ Below w.heap.size w w' := by
  obtain ⟨ao, ln, cap, rfl⟩ := own_shape h.own
  have hln : ln = m.list.length := own_len h.own
  subst hln
  have h0 : w.cell? ⟨pb, 0, none⟩ = some (.slice ao m.list.length cap) := blk_cell h.blk rfl
  obtain ⟨ao', cap', ob, e1, rfl, e3⟩ := h.cell i hi
  injection e1 with e1 e2 e4
  subst e1; subst e4
  have hat := h.at_ i hi
  change DriveAt w (G i) (dbs.getD i 0) (m.get i) at hat
  obtain ⟨sa, sc, q0, q2⟩ := hat.cells
  have hle := hat.get_le
  have hcl := hat.cap_le
  have hdl := World.block_lt_of_cell? w _ q0
  have hii : (i : Int) < (m.list.length : Int) := by omega
  generalize m.get i = d at *
  generalize dbs.getD i 0 = db at *
  have HAT := Lib.hid hat; have HLE := Lib.hid hle; have HQ0 := Lib.hid q0
  clear h hat q2 hle
  go_enter Try.func76, Try.ntmps76
  go_wp2
  go_loopw [10] (fun i wr => ∃ k : Nat, k ≤ d.cap ∧ i = .int .i64 k ∧ (∀ j, j < k → (fun i => rqB S K (d.get i)) j = false) ∧ Below w.heap.size w wr)
    (fun i _ => d.cap - (intOf i).toNat)
  case atStart => exact ⟨0, by omega, rfl, by omega, Below.refl _ _⟩
  case round =>
    obtain ⟨k, hkc, rfl, hq, hb⟩ := hrel
    have HQ := Lib.hid hq; clear hq
    have r0 := (hb.cell (p := ⟨db, 0, none⟩) hdl).trans HQ0.out
    clear q0
    by_cases hlt : k < d.cap
    · have hkk : (k : Int) < (d.cap : Int) := by omega
      have hg := rdrive_get (HAT.out.below hb) k hlt hk
      have h64 := HLE.out k hlt
      have HG := Lib.hid hg; have HB := Lib.hid hb
      clear hg hb
      cases ho : openF (d.get k) with
      | none =>
        by_cases hS : S < 0
        · have hqk : (fun i => rqB S K (d.get i)) k = true := by simp [rqB, ho, hS]
          have HO := Lib.hid ho; have HQK := Lib.hid hqk
          clear ho hqk
          go_wp2_with (fail)
          refine HG.out.mono ?_
          rintro e w1 ⟨⟨v1, rfl, hv1⟩, rfl⟩
          obtain ⟨ao1, c1, rfl⟩ := hv1.shape
          go_wp2_with (go_at_call 80; refine (ropen_none hv1 (by omega) HO.out).mono ?_; rintro e w2 ⟨rfl, hb2⟩)
          have HB2 := Lib.hid (HB.out.trans (hb2.mono HB.out.size))
          clear hb2 hv1
          go_ret
          exact ⟨ret_i64 (by rw [firstIn_some hlt HQK.out HQ.out]; rfl), HB2.out⟩
        · have hqk : (fun i => rqB S K (d.get i)) k = false := by simp [rqB, ho, hS]
          have HO := Lib.hid ho; have HQK := Lib.hid hqk
          clear ho hqk
          go_wp2_with (fail)
          refine HG.out.mono ?_
          rintro e w1 ⟨⟨v1, rfl, hv1⟩, rfl⟩
          obtain ⟨ao1, c1, rfl⟩ := hv1.shape
          go_wp2_with (go_at_call 80; refine (ropen_none hv1 (by omega) HO.out).mono ?_; rintro e w2 ⟨rfl, hb2⟩)
          have HB2 := Lib.hid (HB.out.trans (hb2.mono HB.out.size))
          clear hb2 hv1
          go_roundw
          case rel => exact ⟨k + 1, by omega, by go_num, fun j hj => by
            by_cases e : j = k
            · subst e; exact HQK.out
            · exact HQ.out j (by omega), HB2.out⟩
          case measure => simp [intOf]; omega
      | some r =>
        obtain ⟨s, p, b⟩ := r
        have hqe : (fun i => rqB S K (d.get i)) k = (((s : Int) == S) && ((p : Int) == K)) := by simp [rqB, ho]
        have HO := Lib.hid ho; have HQE := Lib.hid hqe
        clear ho hqe
        by_cases hm : (s : Int) = S ∧ (p : Int) = K
        · obtain ⟨rfl, rfl⟩ := hm
          have hS : ¬ (s : Int) < 0 := by omega
          have hqk : (fun i => rqB s p (d.get i)) k = true := by rw [HQE.out]; simp
          have HQK := Lib.hid hqk
          clear hqk
          go_wp2_with (fail)
          refine HG.out.mono ?_
          rintro e w1 ⟨⟨v1, rfl, hv1⟩, rfl⟩
          obtain ⟨ao1, c1, rfl⟩ := hv1.shape
          go_wp2_with (go_at_call 80; refine (ropen_some hv1 (by omega) HO.out).mono ?_; rintro e w2 ⟨bv, rfl, hbv, hb2⟩)
          have HB2 := Lib.hid (HB.out.trans (hb2.mono HB.out.size))
          clear hb2 hv1 hbv
          go_ret
          exact ⟨ret_i64 (by rw [firstIn_some hlt HQK.out HQ.out]; rfl), HB2.out⟩
        · have hqk : (fun i => rqB S K (d.get i)) k = false := by
            rw [HQE.out]
            rw [Bool.eq_false_iff]
            intro h
            simp only [Bool.and_eq_true, beq_iff_eq] at h
            exact hm h
          have HQK := Lib.hid hqk
          clear hqk
          by_cases hs : (s : Int) = S
          · have hp : ¬ (p : Int) = K := fun h => hm ⟨hs, h⟩
            have hS : ¬ S < 0 := by omega
            have hsb : ((s : Int) == S) = true := by simp [hs]
            have hpb : ((p : Int) == K) = false := by simp [hp]
            clear hm hs
            go_wp2_with (fail)
            refine HG.out.mono ?_
            rintro e w1 ⟨⟨v1, rfl, hv1⟩, rfl⟩
            obtain ⟨ao1, c1, rfl⟩ := hv1.shape
            go_wp2_with (go_at_call 80; refine (ropen_some hv1 (by omega) HO.out).mono ?_; rintro e w2 ⟨bv, rfl, hbv, hb2⟩)
            have HB2 := Lib.hid (HB.out.trans (hb2.mono HB.out.size))
            clear hb2 hv1 hbv
            go_roundw
            case rel => exact ⟨k + 1, by omega, by go_num, fun j hj => by
              by_cases e : j = k
              · subst e; exact HQK.out
              · exact HQ.out j (by omega), HB2.out⟩
            case measure => simp [intOf]; omega
          · have hsb : ((s : Int) == S) = false := by simp [hs]
            clear hm
            by_cases hS : S < 0
            all_goals
              go_wp2_with (fail)
              refine HG.out.mono ?_
              rintro e w1 ⟨⟨v1, rfl, hv1⟩, rfl⟩
              obtain ⟨ao1, c1, rfl⟩ := hv1.shape
              go_wp2_with (go_at_call 80; refine (ropen_some hv1 (by omega) HO.out).mono ?_; rintro e w2 ⟨bv, rfl, hbv, hb2⟩)
              have HB2 := Lib.hid (HB.out.trans (hb2.mono HB.out.size))
              clear hb2 hv1 hbv
              go_roundw
              case rel => exact ⟨k + 1, by omega, by go_num, fun j hj => by
                by_cases e : j = k
                · subst e; exact HQK.out
                · exact HQ.out j (by omega), HB2.out⟩
              case measure => simp [intOf]; omega
    · obtain rfl : k = d.cap := by omega
      go_wp2
      go_ret
      exact ⟨ret_i64 (by rw [firstIn_none HQ.out]; rfl), hb⟩
theorem rfind_shard {w : World} {F : Nat → Prop} {pb : Nat} {lv : Value} {dbs : List Nat} {G : Nat → Nat → Prop} {m : PM} (h : PoolIn w F pb lv dbs G m) (i : Nat) (hi : i < m.list.length) (hk : (m.get i).loose.length ≤ 1000000000) (S K : Int) (hS : 0 ≤ S) :
    Calls Try.prog 76 #[.pointer (some ⟨pb, 0, none⟩), .int .i64 i, .int .i64 S, .int .i64 K] w fun e w' => e = .returned (.int .i64 (idxV ((m.get i).find S K))) ∧ Below w.heap.size w w' := by
  have := rfind_any h i hi hk S K
  rw [rqB_has hS] at this
  exact this
theorem rfind_free {w : World} {F : Nat → Prop} {pb : Nat} {lv : Value} {dbs : List Nat} {G : Nat → Nat → Prop} {m : PM} (h : PoolIn w F pb lv dbs G m) (i : Nat) (hi : i < m.list.length) (hk : (m.get i).loose.length ≤ 1000000000) :
    Calls Try.prog 76 #[.pointer (some ⟨pb, 0, none⟩), .int .i64 i, .int .i64 (-1), .int .i64 0] w fun e w' => e = .returned (.int .i64 (idxV (m.get i).free1)) ∧ Below w.heap.size w w' := by
  have := rfind_any h i hi hk (-1) 0
  rw [rqB_free] at this
  exact this
end Go.Proofs.Fr

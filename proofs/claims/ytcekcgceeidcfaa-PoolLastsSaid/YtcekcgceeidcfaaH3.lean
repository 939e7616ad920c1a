import Derived.Test.YtcekcgceeidcfaaH2
import Derived.Laws.BytesArg
namespace Go.Proofs.Fl
open Go.RowKit

def baOf (l : Bytes) : ByteArray := ⟨l.toArray⟩
theorem strOfNums_u8 (l : Bytes) : strOfNums (l.map fun c => (c.toNat : Int)) = baOf l := by
  unfold strOfNums baOf
  congr 2
  rw [List.map_map]
  conv => rhs; rw [← List.map_id l]
  apply List.map_congr_left
  intro c _
  simp
theorem conv_bs {P : Program} {S : Nat → Prop} {v : Value} {l : Bytes} {w : World} (hB : Bs w S v l) (src e dst : TypeId) (hs : P.underlying src = some (.slice e)) (he : P.underlying e = some (.int .u8)) (hd : P.underlying dst = some .string) :
    (convert src dst v).run P w = .ok (.string (baOf l)) w := by
  obtain ⟨ao, c, rfl, hlc, hcm, hsh⟩ := hB
  rcases hsh with ⟨rfl, rfl⟩ | ⟨b, o, rfl, _, hbw, hc⟩
  · obtain rfl : l = [] := List.eq_nil_of_length_eq_zero (by omega)
    exact run_convert_bytes_nil w src e hs he _ _ dst hd
  · rw [run_convert_bytes_arg w src e hs he b o l.length c (l.map fun c => (c.toNat : Int)) (by simp) (fun i hi => ?_) dst hd, strOfNums_u8]
    rw [hc i hi]
    simp [hi]

set_option maxHeartbeats 400000 in
set_option maxRecDepth 100000 in
theorem equal_any {S T : Nat → Prop} {va vb : Value} {a b : Bytes} {w : World} (hA : Bs w S va a) (hB : Bs w T vb b) :
    Calls Try.prog 107 #[va, vb] w fun e w' => e = .returned (.bool (decide (a = b))) ∧ w = w' := by
  have ca := conv_bs (P := Try.prog) hA 28 5 9 Try.underlying28 Try.underlying5 Try.underlying9
  have cb := conv_bs (P := Try.prog) hB 28 5 9 Try.underlying28 Try.underlying5 Try.underlying9
  obtain ⟨ao, c, rfl, hlc, hcm, hsh⟩ := hA
  obtain ⟨ao', c', rfl, hlc', hcm', hsh'⟩ := hB
  have h1 := Lib.hid hsh; have h2 := Lib.hid hsh'; clear hsh hsh'
  go_enter Try.func107, Try.ntmps107
  go_wp2
  go_ret
  refine ⟨?_, rfl⟩
  have e : ((baOf a).toList == (baOf b).toList) = decide (a = b) := by simp only [baOf, ByteArray.toList_mk]; rw [Bool.eq_iff_iff]; simp
  exact congrArg (fun x => Ending.returned (.bool x)) e

theorem Bs.take {w : World} {S : Nat → Prop} {ao : Option Addr} {n c : Nat} {l : Bytes} (h : Bs w S (.slice ao n c) l) (m : Nat) (hm : m ≤ n) : Bs w S (.slice ao m c) (l.take m) := by
  obtain ⟨ao', c', e, h1, h2, h3⟩ := h
  injection e with e1 e2 e3
  subst e1; subst e2; subst e3
  have hl : (l.take m).length = m := by simp; omega
  refine ⟨ao, c, by rw [hl], by omega, h2, ?_⟩
  rcases h3 with h3 | ⟨b, o, e1, hs, hb, hc⟩
  · exact .inl h3
  · refine .inr ⟨b, o, e1, hs, hb, fun j hj => ?_⟩
    rw [hc j (by omega)]
    simp [List.getD_eq_getElem?_getD, show j < m by omega]

/-- A shard, as it stands in a slot. -/
def frameHead (s p : Nat) (b : Bytes) : Bytes := putBE s 4 ++ [UInt8.ofNat p, UInt8.ofNat b.length] ++ b
def frame (s p : Nat) (b : Bytes) : Bytes := frameHead s p (b.take 50) ++ putBE (crc (frameHead s p (b.take 50))).toNat 4

theorem put4 (base : Nat) (v : Value) (n : Nat) (l : Bytes) (x : Nat) (w : World) (hn : n ≤ 1000000) (hb : base ≤ w.heap.size) (hown : w.ownsRow base tU8 1 v n (u8s l)) :
    Calls Try.prog 101 #[v, .int .u64 x, .int .i64 4] w fun e w' => ∃ v', e = .returned v' ∧ w'.ownsRow base tU8 1 v' (n + 4) (u8s (l ++ putBE x 4)) ∧ Grew w v w' v' :=
  put_any base v n l x 4 w (by decide) hn hb hown

theorem u8v_lt (x : Nat) (h : x < 256) : u8v (UInt8.ofNat x) = .int .u8 (x : Int) := by
  rw [u8v_ofNat]
  congr 1
  omega
theorem wrap64_u32 (x : UInt32) : IntKind.u64.wrap (x.toNat : Int) = x.toNat := by
  have := x.toNat_lt
  simp [IntKind.wrap, IntKind.bits, IntKind.signed]
  omega
theorem Bs.len {w : World} {S : Nat → Prop} {ao : Option Addr} {m c : Nat} {l : Bytes} (h : Bs w S (.slice ao m c) l) : l.length = m := by
  obtain ⟨_, _, e, _⟩ := h; injection e with _ e2 _; exact e2.symm
theorem frame_two (s p m : Nat) (l : Bytes) (hp : p < 256) (hm : m < 256) (hl : l.length = m) : u8s (putBE s 4) ++ [Value.int IntKind.u8 (p : Int), Value.int IntKind.u8 (m : Int)] ++ u8s l = u8s (frameHead s p l) := by
  unfold frameHead
  rw [u8s_append, u8s_append, ← u8v_lt p hp, ← u8v_lt m hm, hl]
  rfl

set_option maxHeartbeats 1000000 in
set_option maxRecDepth 100000 in
theorem frame_any {S : Nat → Prop} {v : Value} {l : Bytes} {w : World} (s p : Nat) (hs : s < 4611686018427387904) (hp : p < 256) (hB : Bs w S v l) (hn : l.length ≤ 1000000) :
    Calls Try.prog 66 #[.int .i64 s, .int .i64 p, v] w fun e w' => ∃ v', e = .returned v' ∧ Bs w' (Fresh w) v' (frame s p l) ∧ Below w.heap.size w w' := by
  obtain ⟨ao, c, rfl⟩ : ∃ ao c, v = .slice ao l.length c := by obtain ⟨ao, c, rfl, _⟩ := hB; exact ⟨ao, c, rfl⟩
  have hlc : l.length ≤ c := by obtain ⟨_, _, e, h, _⟩ := hB; injection e with _ _ e3; omega
  rw [frame]
  obtain ⟨M, hM⟩ : ∃ M, M = min l.length 50 := ⟨_, rfl⟩
  have hB' := hB.take M (by omega)
  have el : l.take M = l.take 50 := by
    rw [hM]
    by_cases h : l.length ≤ 50
    · rw [Nat.min_eq_left h, List.take_length, List.take_of_length_le h]
    · rw [Nat.min_eq_right (by omega)]
  rw [el] at hB'
  have hlen := hB'.len
  generalize l.take 50 = l' at hB' hlen
  clear hB el
  have hl50 : M ≤ 50 := by omega
  by_cases h50 : l.length ≤ 50
  · obtain rfl : M = l.length := by omega
    have HL := Lib.hid hlen; clear hlen hM
    go_enter Try.func66, Try.ntmps66
    go_wp2_with (fail)
    refine (put4 w.heap.size _ 0 [] s w (by decide) (Nat.le_refl _) (World.ownsRow_nil _ _ _ _)).mono ?_
    rintro e w1 ⟨v1, rfl, hown1, hg1⟩
    have hb1 : Below w.heap.size w w1 := Grew.new (Below.refl _ _) (Nat.le_refl _) hg1 (fun g hg => by simp [Value.ownBlock] at hg)
    go_wp2_with (at_builtin; refine wpList_app_new rfl _ _ _ rfl E28 w.heap.size _ 2 hown1 rfl rfl rfl (by intro u hu; simp at hu; rcases hu with rfl | rfl <;> rfl) (by omega) (by decide) hb1.size ?_)
    intro v2 w2 hown2 hg2 _
    have hg12 := hg1.trans hg2
    have hb2 : Below w.heap.size w w2 := Grew.new (Below.refl _ _) (Nat.le_refl _) hg12 (fun g hg => by simp [Value.ownBlock] at hg)
    have hB2 := hB'.below hb2
    clear hown1 hg1 hg2 hb1
    go_wp2_with (at_builtin; refine wpList_app_bs rfl _ _ _ rfl E28 w.heap.size hown2 hB2 rfl rfl (by rw [HL.out]; omega) hb2.size ?_)
    intro v3 w3 hown3 hg3 _
    have hg13 := hg12.trans hg3
    have hb3 : Below w.heap.size w w3 := Grew.new (Below.refl _ _) (Nat.le_refl _) hg13 (fun g hg => by simp [Value.ownBlock] at hg)
    have hown4 : w3.ownsRow w.heap.size tU8 1 v3 (6 + l.length) (u8s (frameHead s p l')) := by
      rw [← frame_two s p _ l' hp (by omega) HL.out]; simpa [HL.out] using hown3
    clear hown3 hown2 hg3 hg12 hb2
    have hl3 : (frameHead s p l').length = 6 + l.length := by simp [frameHead, HL.out]; omega
    have HL3 := Lib.hid hl3; clear hl3
    have hBs4 := Bs.of_own hown4 (Fresh w) (fun _ h _ => h)
    have hwr := fun x : UInt32 => wrap64_u32 x
    go_wp2_with (go_at_call 102; refine (crc_any hBs4 (by rw [HL3.out]; omega)).mono ?_; rintro e w4 ⟨rfl, rfl⟩)
    refine (put4 w.heap.size _ _ _ (crc (frameHead s p l')).toNat w3 (by omega) hb3.size hown4).mono ?_
    rintro e w5 ⟨v5, rfl, hown5, hg5⟩
    have hg15 := hg13.trans hg5
    have hb5 : Below w.heap.size w w5 := Grew.new (Below.refl _ _) (Nat.le_refl _) hg15 (fun g hg => by simp [Value.ownBlock] at hg)
    clear hg13 hg5 hb3 hown4 hBs4
    go_wp2
    go_ret
    exact ⟨_, rfl, Bs.of_own hown5 (Fresh w) (fun _ h _ => h), hb5⟩
  · obtain rfl : M = 50 := by omega
    have HL := Lib.hid hlen; clear hlen hM
    go_enter Try.func66, Try.ntmps66
    go_wp2_with (fail)
    refine (put4 w.heap.size _ 0 [] s w (by decide) (Nat.le_refl _) (World.ownsRow_nil _ _ _ _)).mono ?_
    rintro e w1 ⟨v1, rfl, hown1, hg1⟩
    have hb1 : Below w.heap.size w w1 := Grew.new (Below.refl _ _) (Nat.le_refl _) hg1 (fun g hg => by simp [Value.ownBlock] at hg)
    go_wp2_with (at_builtin; refine wpList_app_new rfl _ _ _ rfl E28 w.heap.size _ 2 hown1 rfl rfl rfl (by intro u hu; simp at hu; rcases hu with rfl | rfl <;> rfl) (by omega) (by decide) hb1.size ?_)
    intro v2 w2 hown2 hg2 _
    have hg12 := hg1.trans hg2
    have hb2 : Below w.heap.size w w2 := Grew.new (Below.refl _ _) (Nat.le_refl _) hg12 (fun g hg => by simp [Value.ownBlock] at hg)
    have hB2 := hB'.below hb2
    clear hown1 hg1 hg2 hb1
    go_wp2_with (at_builtin; refine wpList_app_bs rfl _ _ _ rfl E28 w.heap.size hown2 hB2 rfl rfl (by rw [HL.out]; omega) hb2.size ?_)
    intro v3 w3 hown3 hg3 _
    have hg13 := hg12.trans hg3
    have hb3 : Below w.heap.size w w3 := Grew.new (Below.refl _ _) (Nat.le_refl _) hg13 (fun g hg => by simp [Value.ownBlock] at hg)
    have hown4 : w3.ownsRow w.heap.size tU8 1 v3 (6 + 50) (u8s (frameHead s p l')) := by
      rw [← frame_two s p _ l' hp (by omega) HL.out]; simpa [HL.out] using hown3
    clear hown3 hown2 hg3 hg12 hb2
    have hl3 : (frameHead s p l').length = 6 + 50 := by simp [frameHead, HL.out]
    have HL3 := Lib.hid hl3; clear hl3
    have hBs4 := Bs.of_own hown4 (Fresh w) (fun _ h _ => h)
    have hwr := fun x : UInt32 => wrap64_u32 x
    go_wp2_with (go_at_call 102; refine (crc_any hBs4 (by rw [HL3.out]; omega)).mono ?_; rintro e w4 ⟨rfl, rfl⟩)
    refine (put4 w.heap.size _ _ _ (crc (frameHead s p l')).toNat w3 (by omega) hb3.size hown4).mono ?_
    rintro e w5 ⟨v5, rfl, hown5, hg5⟩
    have hg15 := hg13.trans hg5
    have hb5 : Below w.heap.size w w5 := Grew.new (Below.refl _ _) (Nat.le_refl _) hg15 (fun g hg => by simp [Value.ownBlock] at hg)
    clear hg13 hg5 hb3 hown4 hBs4
    go_wp2
    go_ret
    exact ⟨_, rfl, Bs.of_own hown5 (Fresh w) (fun _ h _ => h), hb5⟩
end Go.Proofs.Fl

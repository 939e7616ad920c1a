import Derived.Test.YtficmalfoeaibaaXL0
import Derived.Test.YtficmalfoeaibaaProg
import Derived.WalkSpells
import Derived.Lib.LazyBuf
import Derived.Laws.BytesArg
import Derived.Deep.QuietTactic
import Derived.BigQuiet
namespace Go.Proofs.Fl
open Go.RowKit

abbrev tU8 : TypeId := 5
abbrev tBytes : TypeId := 28
theorem E28 : Elem Try.prog tBytes tU8 (.int .u8 0) 1 1 := ⟨Try.underlying28, by kernel_rfl, by decide, by decide⟩

/-- the number in 'size' bytes, the highest first -/
def putBE (x : Nat) (size : Nat) : Bytes := (List.range size).reverse.map fun n => UInt8.ofNat (x / 2 ^ (8 * n))
@[simp] theorem putBE_length (x size : Nat) : (putBE x size).length = size := by simp [putBE]
theorem putBE_take (x size k : Nat) (h : k < size) : (putBE x size).take (k + 1) = (putBE x size).take k ++ [UInt8.ofNat (x / 2 ^ (8 * (size - k - 1)))] := by
  rw [List.take_succ_eq_append_getElem (by simpa using h)]
  simp [putBE]
  congr 3; omega
theorem u8v_ofNat (x : Nat) : u8v (UInt8.ofNat x) = .int .u8 ((x : Int) % 256) := by simp [u8v]
theorem u8s_snoc (l : Bytes) (x : Nat) : u8s l ++ [.int .u8 ((x : Int) % 256)] = u8s (l ++ [UInt8.ofNat x]) := by rw [u8s_append, ← u8v_ofNat]; rfl

set_option maxHeartbeats 400000 in
set_option maxRecDepth 100000 in
theorem put_any (base : Nat) (v : Value) (n : Nat) (l : Bytes) (x size : Nat) (w : World) (hs : size ≤ 8) (hn : n ≤ 1000000) (hb : base ≤ w.heap.size) (hown : w.ownsRow base tU8 1 v n (u8s l)) :
    Calls Try.prog 101 #[v, .int .u64 x, .int .i64 size] w fun e w' => ∃ v', e = .returned v' ∧ w'.ownsRow base tU8 1 v' (n + size) (u8s (l ++ putBE x size)) ∧ Grew w v w' v' := by
  go_enter Try.func101, Try.ntmps101
  go_wp2
  go_loopw [0, 7] (fun u i wr => ∃ k : Nat, k ≤ size ∧ i = .int .i64 ((size : Int) - k - 1) ∧ wr.ownsRow base tU8 1 u (n + k) (u8s (l ++ (putBE x size).take k)) ∧ Grew w v wr u)
    (fun _ i _ => (intOf i + 1).toNat)
  case atStart => exact ⟨0, by omega, by simp, by simpa using hown, Grew.refl _ _⟩
  case round =>
    obtain ⟨k, hk, rfl, hown, hg⟩ := hrel
    by_cases hlt : k < size
    · have hlt' : (0 : Int) ≤ (size : Int) - k - 1 := by omega
      go_wp2_with (at_builtin; refine wpList_app_new rfl _ _ _ rfl E28 base _ 1 hown rfl rfl rfl ?h1 (by omega) (by decide) (by have := hg.by_.size; omega) ?_)
      case h1 => simp [Value.oneCell']
      intro v' w' hown' hg' _
      have hg2 := hg.trans hg'
      have hown2 : w'.ownsRow base tU8 1 v' (n + (k + 1)) (u8s (l ++ (putBE x size).take (k + 1))) := by
        rw [putBE_take _ _ _ hlt, ← List.append_assoc, ← u8s_snoc]
        simpa [Nat.add_assoc] using hown'
      clear hown' hg' hown hg
      go_wp2
      go_roundw
      case rel => exact ⟨k + 1, by omega, by go_num, hown2, hg2⟩
      case measure => simp [intOf]; omega
    · obtain rfl : k = size := by omega
      go_wp2
      go_ret
      exact ⟨_, rfl, by simpa [List.take_of_length_le] using hown, hg⟩
end Go.Proofs.Fl

namespace Go.Proofs.Fl
open Go.RowKit

theorem ret_u64 {a b : Int} (h : a = b) : Value.int .u64 a = .int .u64 b := by rw [h]
theorem ret_u32 {a b : Int} (h : a = b) : Value.int .u32 a = .int .u32 b := by rw [h]

/-! the number of bytes -/
def getBE (l : Bytes) : UInt64 := l.foldl (fun v c => v <<< 8 ||| c.toUInt64) 0
theorem getBE_step (r : UInt64) (c : UInt8) : bits BinOp.or IntKind.u64 (IntKind.u64.wrap ((r.toNat : Int) * 256)) (IntKind.u64.wrap (c.toNat : Int)) = ((r <<< 8 ||| c.toUInt64).toNat : Int) := by
  have h1 : IntKind.u64.wrap ((r.toNat : Int) * 256) = ((r.toNat * 256 % 18446744073709551616 : Nat) : Int) := by
    simp [IntKind.wrap, IntKind.bits, IntKind.signed]
  have hc := c.toNat_lt
  have h2 : IntKind.u64.wrap (c.toNat : Int) = ((c.toNat : Nat) : Int) := by
    simp [IntKind.wrap, IntKind.bits, IntKind.signed]
    omega
  rw [h1, h2, u64_or_nat _ _ (Nat.mod_lt _ (by decide)) (by omega)]
  rw [UInt64.toNat_or, UInt64.toNat_shiftLeft]
  simp [Nat.shiftLeft_eq]
theorem getBE_snoc (l : Bytes) (c : UInt8) : getBE (l ++ [c]) = (getBE l) <<< 8 ||| c.toUInt64 := by simp [getBE]
theorem take_snoc' (l : Bytes) (k : Nat) (h : k < l.length) : l.take (k + 1) = l.take k ++ [l.getD k 0] := by
  rw [List.take_succ_eq_append_getElem h]; simp [h]

set_option maxHeartbeats 400000 in
set_option maxRecDepth 100000 in
theorem get_any {S : Nat → Prop} {v : Value} {l : Bytes} {w : World} (hB : Bs w S v l) (hn : l.length ≤ 1000000) :
    Calls Try.prog 106 #[v] w fun e w' => e = .returned (.int .u64 (getBE l).toNat) ∧ w = w' := by
  obtain ⟨ao, c, rfl, hlc, hcm, hsh⟩ := hB
  have hao : 0 < l.length → ∃ b o, ao = some ⟨b, o, none⟩ ∧ ∀ j, j < l.length → w.cell? ⟨b, o + j, none⟩ = some (.int .u8 ((l.getD j 0).toNat : Int)) := by
    intro h
    rcases hsh with ⟨rfl, rfl⟩ | ⟨b, o', rfl, _, hbw, hc⟩
    · omega
    · exact ⟨b, o', rfl, hc⟩
  clear hsh hcm
  have HA := Lib.hid hao; clear hao
  go_enter Try.func106, Try.ntmps106
  go_wp2
  go_loop [3, 8] (fun v i => ∃ (k : Nat), k ≤ l.length ∧ i = .int .i64 k ∧ v = .int .u64 (getBE (l.take k)).toNat)
    (fun _ i => l.length - (intOf i).toNat)
  case atStart => exact ⟨0, by omega, rfl, rfl⟩
  case round =>
    obtain ⟨k, hk, rfl, rfl⟩ := hrel
    by_cases hlt : k < l.length
    · obtain ⟨b, o', rfl, hc⟩ := HA.out (by omega)
      have hcell := hc k hlt
      clear hc
      go_wp2
      go_round
      case rel => exact ⟨k + 1, by omega, by go_num, ret_u64 (by rw [take_snoc' l k hlt, getBE_snoc, ← getBE_step]; simp [hlt])⟩
      case measure => simp [intOf]; omega
    · obtain rfl : k = l.length := by omega
      go_wp2
      go_ret
      exact ⟨by simp, rfl⟩

/-! the sum of bytes -/
def crcBit (v : UInt32) : UInt32 := (v >>> 1) ^^^ (2197175160 * (v &&& 1))
def crcBits : Nat → UInt32 → UInt32 | 0, v => v | k + 1, v => crcBit (crcBits k v)
def crcByte (v : UInt32) (c : UInt8) : UInt32 := crcBits 8 (v ^^^ c.toUInt32)
def crcRun (l : Bytes) : UInt32 := l.foldl crcByte 4294967295
def crc (l : Bytes) : UInt32 := 4294967295 ^^^ crcRun l
theorem crcRun_snoc (l : Bytes) (c : UInt8) : crcRun (l ++ [c]) = crcByte (crcRun l) c := by simp [crcRun]
theorem crcBit_step (r : UInt32) : bits BinOp.xor IntKind.u32 ((r.toNat : Int) / 2) (2197175160 * bits BinOp.and IntKind.u32 (r.toNat : Int) 1 % 4294967296) = ((crcBit r).toNat : Int) := by
  have hr := r.toNat_lt
  have h1 : bits BinOp.and IntKind.u32 (r.toNat : Int) 1 = ((r.toNat &&& 1 : Nat) : Int) := u32_and_nat r.toNat 1 (by omega) (by decide)
  have h2 : (r.toNat : Int) / 2 = ((r.toNat / 2 : Nat) : Int) := by omega
  have h3 : (2197175160 : Int) * ((r.toNat &&& 1 : Nat) : Int) % 4294967296 = ((2197175160 * (r.toNat &&& 1) % 4294967296 : Nat) : Int) := by omega
  rw [h1, h2, h3, u32_xor_nat _ _ (by omega) (Nat.mod_lt _ (by decide))]
  unfold crcBit
  rw [UInt32.toNat_xor, UInt32.toNat_shiftRight, UInt32.toNat_mul, UInt32.toNat_and]
  congr 2
theorem crcIn_step (r : UInt32) (c : UInt8) : bits BinOp.xor IntKind.u32 (r.toNat : Int) ((c.toNat : Int) % 4294967296) = ((r ^^^ c.toUInt32).toNat : Int) := by
  have hr := r.toNat_lt
  have hc := c.toNat_lt
  have h3 : (c.toNat : Int) % 4294967296 = ((c.toNat : Nat) : Int) := by omega
  rw [h3, u32_xor_nat _ _ (by omega) (by omega), UInt32.toNat_xor]
  congr 2
theorem crcOut_step (r : UInt32) : bits BinOp.xor IntKind.u32 IntKind.u32.max (r.toNat : Int) = ((4294967295 ^^^ r).toNat : Int) := by
  have hr := r.toNat_lt
  have h : IntKind.u32.max = ((4294967295 : Nat) : Int) := rfl
  rw [h, u32_xor_nat _ _ (by decide) (by omega), UInt32.toNat_xor]
  rfl
theorem crcBits_succ (k : Nat) (v : UInt32) : crcBits (k + 1) v = crcBit (crcBits k v) := rfl

set_option maxHeartbeats 800000 in
set_option maxRecDepth 100000 in
theorem crc_any {S : Nat → Prop} {v : Value} {l : Bytes} {w : World} (hB : Bs w S v l) (hn : l.length ≤ 1000000) :
    Calls Try.prog 102 #[v] w fun e w' => e = .returned (.int .u32 (crc l).toNat) ∧ w = w' := by
  obtain ⟨ao, c, rfl, hlc, hcm, hsh⟩ := hB
  have hao : 0 < l.length → ∃ b o, ao = some ⟨b, o, none⟩ ∧ ∀ j, j < l.length → w.cell? ⟨b, o + j, none⟩ = some (.int .u8 ((l.getD j 0).toNat : Int)) := by
    intro h
    rcases hsh with ⟨rfl, rfl⟩ | ⟨b, o', rfl, _, hbw, hc⟩
    · omega
    · exact ⟨b, o', rfl, hc⟩
  clear hsh hcm
  have HA := Lib.hid hao; clear hao
  go_enter Try.func102, Try.ntmps102
  go_wp2
  go_loop [3, 8] (fun v i => ∃ (k : Nat), k ≤ l.length ∧ i = .int .i64 k ∧ v = .int .u32 (crcRun (l.take k)).toNat)
    (fun _ i => l.length - (intOf i).toNat)
  case atStart => exact ⟨0, by omega, rfl, rfl⟩
  case round =>
    obtain ⟨k, hk, rfl, rfl⟩ := hrel
    by_cases hlt : k < l.length
    · obtain ⟨b, o', rfl, hc⟩ := HA.out (by omega)
      have hcell := hc k hlt
      clear hc
      go_wp2
      go_loop [3, 16] (fun v i => ∃ (j : Nat), j ≤ 8 ∧ i = .int .i64 j ∧ v = .int .u32 (crcBits j (crcRun (l.take k) ^^^ (l.getD k 0).toUInt32)).toNat)
        (fun _ i => 8 - (intOf i).toNat)
      case atStart => exact ⟨0, by omega, rfl, ret_u32 (by rw [show crcBits 0 (crcRun (l.take k) ^^^ (l.getD k 0).toUInt32) = crcRun (l.take k) ^^^ (l.getD k 0).toUInt32 from rfl, ← crcIn_step]; simp [hlt])⟩
      case round =>
        obtain ⟨j, hj, rfl, rfl⟩ := hrel
        by_cases hjl : j < 8
        · go_wp2
          go_round
          case rel => exact ⟨j + 1, by omega, by go_num, ret_u32 (by rw [crcBits_succ, ← crcBit_step]; simp [hlt])⟩
          case measure => simp [intOf]; omega
        · obtain rfl : j = 8 := by omega
          go_wp2
          go_round
          case rel => exact ⟨k + 1, by omega, by go_num, ret_u32 (by rw [take_snoc' l k hlt, crcRun_snoc]; rfl)⟩
          case measure => simp [intOf]; omega
    · obtain rfl : k = l.length := by omega
      go_wp2
      go_ret
      exact ⟨by simp only [crc, ← crcOut_step]; rfl, rfl⟩
end Go.Proofs.Fl

namespace Go.Proofs.Fl
open Go.RowKit

/-- The blocks that are new since w. -/
def Fresh (w : World) (b : Nat) : Prop := w.heap.size ≤ b

set_option maxHeartbeats 400000 in
set_option maxRecDepth 100000 in
theorem clone_any {S : Nat → Prop} {v : Value} {l : Bytes} {w : World} (hB : Bs w S v l) (hn : l.length ≤ 1000000) :
    Calls Try.prog 105 #[v] w fun e w' => ∃ v', e = .returned v' ∧ Bs w' (Fresh w) v' l ∧ Below w.heap.size w w' := by
  have hB' := hB
  obtain ⟨ao, c, rfl, hlc, hcm, hsh⟩ := hB
  rcases hsh with ⟨rfl, rfl⟩ | ⟨b, o, rfl, _, hbw, hc⟩
  · have hl0 : l = [] := List.eq_nil_of_length_eq_zero (by omega)
    subst hl0
    have hnil := fun (w : World) (a : Option Addr) (n c : Nat) => Lib.run_eql_slice_nil (P := Try.prog) w _ _ a n c 0 0 Try.underlying28
    go_enter Try.func105, Try.ntmps105
    go_wp2
    go_ret
    exact ⟨_, rfl, Bs.nil _ _, Below.refl _ _⟩
  · have HC := Lib.hid hc; clear hc
    have hnil := fun (w : World) (a : Option Addr) (n c : Nat) => Lib.run_eql_slice_nil (P := Try.prog) w _ _ a n c 0 0 Try.underlying28
    go_enter Try.func105, Try.ntmps105
    have hown0 : (w.alloc (.cells #[] tU8)).ownsRow w.heap.size tU8 1 (.slice (some ⟨w.heap.size, 0, none⟩) 0 0) 0 [] := World.ownsRow_made w #[] 0 (Nat.le_refl _) (by simp) (by simp)
    have hB1 : Bs (w.alloc (.cells #[] tU8)) S _ l := hB'.below ((Below.refl _ _).alloc (Nat.le_refl _) _)
    go_wp2_with (at_builtin; refine wpList_app_bs rfl _ _ _ rfl E28 w.heap.size hown0 hB1 rfl rfl (by omega) (by simp) ?_)
    intro v' w' hown' hg' _
    go_wp2
    go_ret
    have hbel : Below w.heap.size w w' := Grew.new ((Below.refl _ _).alloc (Nat.le_refl _) _) (by simp) hg' (fun g hg => by simp [Value.ownBlock] at hg; omega)
    exact ⟨_, rfl, Bs.of_own (by simpa using hown') _ (fun b hb _ => hb), hbel⟩
end Go.Proofs.Fl

namespace Go.Proofs.Fl
open Go.RowKit

def baOf (l : Bytes) : ByteArray := ⟨l.toArray⟩
theorem strOfNums_u8 (l : Bytes) : strOfNums (l.map fun c => (c.toNat : Int)) = baOf l := by
  unfold strOfNums baOf
  congr 2
  rw [List.map_map]
  conv => rhs; rw [← List.map_id l]
  apply List.map_congr_left
  intro c _
  simp
theorem conv_bs {P : Program} {S : Nat → Prop} {v : Value} {l : Bytes} {w : World} (hB : Bs w S v l) (src e dst : TypeId) (hs : P.underlying src = some (.slice e)) (he : P.underlying e = some (.int .u8)) (hd : P.underlying dst = some .string) :
    (convert src dst v).run P w = .ok (.string (baOf l)) w := by
  obtain ⟨ao, c, rfl, hlc, hcm, hsh⟩ := hB
  rcases hsh with ⟨rfl, rfl⟩ | ⟨b, o, rfl, _, hbw, hc⟩
  · obtain rfl : l = [] := List.eq_nil_of_length_eq_zero (by omega)
    exact run_convert_bytes_nil w src e hs he _ _ dst hd
  · rw [run_convert_bytes_arg w src e hs he b o l.length c (l.map fun c => (c.toNat : Int)) (by simp) (fun i hi => ?_) dst hd, strOfNums_u8]
    rw [hc i hi]
    simp [hi]

set_option maxHeartbeats 400000 in
set_option maxRecDepth 100000 in
theorem equal_any {S T : Nat → Prop} {va vb : Value} {a b : Bytes} {w : World} (hA : Bs w S va a) (hB : Bs w T vb b) :
    Calls Try.prog 107 #[va, vb] w fun e w' => e = .returned (.bool (decide (a = b))) ∧ w = w' := by
  have ca := conv_bs (P := Try.prog) hA 28 5 9 Try.underlying28 Try.underlying5 Try.underlying9
  have cb := conv_bs (P := Try.prog) hB 28 5 9 Try.underlying28 Try.underlying5 Try.underlying9
  obtain ⟨ao, c, rfl, hlc, hcm, hsh⟩ := hA
  obtain ⟨ao', c', rfl, hlc', hcm', hsh'⟩ := hB
  have h1 := Lib.hid hsh; have h2 := Lib.hid hsh'; clear hsh hsh'
  go_enter Try.func107, Try.ntmps107
  go_wp2
  go_ret
  refine ⟨?_, rfl⟩
  have e : ((baOf a).toList == (baOf b).toList) = decide (a = b) := by simp only [baOf, ByteArray.toList_mk]; rw [Bool.eq_iff_iff]; simp
  exact congrArg (fun x => Ending.returned (.bool x)) e

theorem Bs.take {w : World} {S : Nat → Prop} {ao : Option Addr} {n c : Nat} {l : Bytes} (h : Bs w S (.slice ao n c) l) (m : Nat) (hm : m ≤ n) : Bs w S (.slice ao m c) (l.take m) := by
  obtain ⟨ao', c', e, h1, h2, h3⟩ := h
  injection e with e1 e2 e3
  subst e1; subst e2; subst e3
  have hl : (l.take m).length = m := by simp; omega
  refine ⟨ao, c, by rw [hl], by omega, h2, ?_⟩
  rcases h3 with h3 | ⟨b, o, e1, hs, hb, hc⟩
  · exact .inl h3
  · refine .inr ⟨b, o, e1, hs, hb, fun j hj => ?_⟩
    rw [hc j (by omega)]
    simp [List.getD_eq_getElem?_getD, show j < m by omega]

/-- A shard, as it stands in a slot. -/
def frameHead (s p : Nat) (b : Bytes) : Bytes := putBE s 4 ++ [UInt8.ofNat p, UInt8.ofNat b.length] ++ b
def frame (s p : Nat) (b : Bytes) : Bytes := frameHead s p (b.take 50) ++ putBE (crc (frameHead s p (b.take 50))).toNat 4

theorem put4 (base : Nat) (v : Value) (n : Nat) (l : Bytes) (x : Nat) (w : World) (hn : n ≤ 1000000) (hb : base ≤ w.heap.size) (hown : w.ownsRow base tU8 1 v n (u8s l)) :
    Calls Try.prog 101 #[v, .int .u64 x, .int .i64 4] w fun e w' => ∃ v', e = .returned v' ∧ w'.ownsRow base tU8 1 v' (n + 4) (u8s (l ++ putBE x 4)) ∧ Grew w v w' v' :=
  put_any base v n l x 4 w (by decide) hn hb hown

theorem u8v_lt (x : Nat) (h : x < 256) : u8v (UInt8.ofNat x) = .int .u8 (x : Int) := by
  rw [u8v_ofNat]
  congr 1
  omega
theorem wrap64_u32 (x : UInt32) : IntKind.u64.wrap (x.toNat : Int) = x.toNat := by
  have := x.toNat_lt
  simp [IntKind.wrap, IntKind.bits, IntKind.signed]
  omega
theorem Bs.len {w : World} {S : Nat → Prop} {ao : Option Addr} {m c : Nat} {l : Bytes} (h : Bs w S (.slice ao m c) l) : l.length = m := by
  obtain ⟨_, _, e, _⟩ := h; injection e with _ e2 _; exact e2.symm
theorem frame_two (s p m : Nat) (l : Bytes) (hp : p < 256) (hm : m < 256) (hl : l.length = m) : u8s (putBE s 4) ++ [Value.int IntKind.u8 (p : Int), Value.int IntKind.u8 (m : Int)] ++ u8s l = u8s (frameHead s p l) := by
  unfold frameHead
  rw [u8s_append, u8s_append, ← u8v_lt p hp, ← u8v_lt m hm, hl]
  rfl

set_option maxHeartbeats 1000000 in
set_option maxRecDepth 100000 in
theorem frame_any {S : Nat → Prop} {v : Value} {l : Bytes} {w : World} (s p : Nat) (hs : s < 4611686018427387904) (hp : p < 256) (hB : Bs w S v l) (hn : l.length ≤ 1000000) :
    Calls Try.prog 66 #[.int .i64 s, .int .i64 p, v] w fun e w' => ∃ v', e = .returned v' ∧ Bs w' (Fresh w) v' (frame s p l) ∧ Below w.heap.size w w' := by
  obtain ⟨ao, c, rfl⟩ : ∃ ao c, v = .slice ao l.length c := by obtain ⟨ao, c, rfl, _⟩ := hB; exact ⟨ao, c, rfl⟩
  have hlc : l.length ≤ c := by obtain ⟨_, _, e, h, _⟩ := hB; injection e with _ _ e3; omega
  rw [frame]
  obtain ⟨M, hM⟩ : ∃ M, M = min l.length 50 := ⟨_, rfl⟩
  have hB' := hB.take M (by omega)
  have el : l.take M = l.take 50 := by
    rw [hM]
    by_cases h : l.length ≤ 50
    · rw [Nat.min_eq_left h, List.take_length, List.take_of_length_le h]
    · rw [Nat.min_eq_right (by omega)]
  rw [el] at hB'
  have hlen := hB'.len
  generalize l.take 50 = l' at hB' hlen
  clear hB el
  have hl50 : M ≤ 50 := by omega
  by_cases h50 : l.length ≤ 50
  · obtain rfl : M = l.length := by omega
    have HL := Lib.hid hlen; clear hlen hM
    go_enter Try.func66, Try.ntmps66
    go_wp2_with (fail)
    refine (put4 w.heap.size _ 0 [] s w (by decide) (Nat.le_refl _) (World.ownsRow_nil _ _ _ _)).mono ?_
    rintro e w1 ⟨v1, rfl, hown1, hg1⟩
    have hb1 : Below w.heap.size w w1 := Grew.new (Below.refl _ _) (Nat.le_refl _) hg1 (fun g hg => by simp [Value.ownBlock] at hg)
    go_wp2_with (at_builtin; refine wpList_app_new rfl _ _ _ rfl E28 w.heap.size _ 2 hown1 rfl rfl rfl (by intro u hu; simp at hu; rcases hu with rfl | rfl <;> rfl) (by omega) (by decide) hb1.size ?_)
    intro v2 w2 hown2 hg2 _
    have hg12 := hg1.trans hg2
    have hb2 : Below w.heap.size w w2 := Grew.new (Below.refl _ _) (Nat.le_refl _) hg12 (fun g hg => by simp [Value.ownBlock] at hg)
    have hB2 := hB'.below hb2
    clear hown1 hg1 hg2 hb1
    go_wp2_with (at_builtin; refine wpList_app_bs rfl _ _ _ rfl E28 w.heap.size hown2 hB2 rfl rfl (by rw [HL.out]; omega) hb2.size ?_)
    intro v3 w3 hown3 hg3 _
    have hg13 := hg12.trans hg3
    have hb3 : Below w.heap.size w w3 := Grew.new (Below.refl _ _) (Nat.le_refl _) hg13 (fun g hg => by simp [Value.ownBlock] at hg)
    have hown4 : w3.ownsRow w.heap.size tU8 1 v3 (6 + l.length) (u8s (frameHead s p l')) := by
      rw [← frame_two s p _ l' hp (by omega) HL.out]; simpa [HL.out] using hown3
    clear hown3 hown2 hg3 hg12 hb2
    have hl3 : (frameHead s p l').length = 6 + l.length := by simp [frameHead, HL.out]; omega
    have HL3 := Lib.hid hl3; clear hl3
    have hBs4 := Bs.of_own hown4 (Fresh w) (fun _ h _ => h)
    have hwr := fun x : UInt32 => wrap64_u32 x
    go_wp2_with (go_at_call 102; refine (crc_any hBs4 (by rw [HL3.out]; omega)).mono ?_; rintro e w4 ⟨rfl, rfl⟩)
    refine (put4 w.heap.size _ _ _ (crc (frameHead s p l')).toNat w3 (by omega) hb3.size hown4).mono ?_
    rintro e w5 ⟨v5, rfl, hown5, hg5⟩
    have hg15 := hg13.trans hg5
    have hb5 : Below w.heap.size w w5 := Grew.new (Below.refl _ _) (Nat.le_refl _) hg15 (fun g hg => by simp [Value.ownBlock] at hg)
    clear hg13 hg5 hb3 hown4 hBs4
    go_wp2
    go_ret
    exact ⟨_, rfl, Bs.of_own hown5 (Fresh w) (fun _ h _ => h), hb5⟩
  · obtain rfl : M = 50 := by omega
    have HL := Lib.hid hlen; clear hlen hM
    go_enter Try.func66, Try.ntmps66
    go_wp2_with (fail)
    refine (put4 w.heap.size _ 0 [] s w (by decide) (Nat.le_refl _) (World.ownsRow_nil _ _ _ _)).mono ?_
    rintro e w1 ⟨v1, rfl, hown1, hg1⟩
    have hb1 : Below w.heap.size w w1 := Grew.new (Below.refl _ _) (Nat.le_refl _) hg1 (fun g hg => by simp [Value.ownBlock] at hg)
    go_wp2_with (at_builtin; refine wpList_app_new rfl _ _ _ rfl E28 w.heap.size _ 2 hown1 rfl rfl rfl (by intro u hu; simp at hu; rcases hu with rfl | rfl <;> rfl) (by omega) (by decide) hb1.size ?_)
    intro v2 w2 hown2 hg2 _
    have hg12 := hg1.trans hg2
    have hb2 : Below w.heap.size w w2 := Grew.new (Below.refl _ _) (Nat.le_refl _) hg12 (fun g hg => by simp [Value.ownBlock] at hg)
    have hB2 := hB'.below hb2
    clear hown1 hg1 hg2 hb1
    go_wp2_with (at_builtin; refine wpList_app_bs rfl _ _ _ rfl E28 w.heap.size hown2 hB2 rfl rfl (by rw [HL.out]; omega) hb2.size ?_)
    intro v3 w3 hown3 hg3 _
    have hg13 := hg12.trans hg3
    have hb3 : Below w.heap.size w w3 := Grew.new (Below.refl _ _) (Nat.le_refl _) hg13 (fun g hg => by simp [Value.ownBlock] at hg)
    have hown4 : w3.ownsRow w.heap.size tU8 1 v3 (6 + 50) (u8s (frameHead s p l')) := by
      rw [← frame_two s p _ l' hp (by omega) HL.out]; simpa [HL.out] using hown3
    clear hown3 hown2 hg3 hg12 hb2
    have hl3 : (frameHead s p l').length = 6 + 50 := by simp [frameHead, HL.out]
    have HL3 := Lib.hid hl3; clear hl3
    have hBs4 := Bs.of_own hown4 (Fresh w) (fun _ h _ => h)
    have hwr := fun x : UInt32 => wrap64_u32 x
    go_wp2_with (go_at_call 102; refine (crc_any hBs4 (by rw [HL3.out]; omega)).mono ?_; rintro e w4 ⟨rfl, rfl⟩)
    refine (put4 w.heap.size _ _ _ (crc (frameHead s p l')).toNat w3 (by omega) hb3.size hown4).mono ?_
    rintro e w5 ⟨v5, rfl, hown5, hg5⟩
    have hg15 := hg13.trans hg5
    have hb5 : Below w.heap.size w w5 := Grew.new (Below.refl _ _) (Nat.le_refl _) hg15 (fun g hg => by simp [Value.ownBlock] at hg)
    clear hg13 hg5 hb3 hown4 hBs4
    go_wp2
    go_ret
    exact ⟨_, rfl, Bs.of_own hown5 (Fresh w) (fun _ h _ => h), hb5⟩
end Go.Proofs.Fl

namespace Go.Proofs.Fl
open Go.RowKit

/-! ### the number of bytes, as a natural number -/
theorem snoc_ind {α : Type} {P : List α → Prop} (h0 : P []) (h1 : ∀ l x, P l → P (l ++ [x])) (l : List α) : P l := by
  have : ∀ r : List α, P r.reverse := fun r => by
    induction r with
    | nil => exact h0
    | cons x r ih => rw [List.reverse_cons]; exact h1 _ _ ih
  have h := this l.reverse
  rwa [List.reverse_reverse] at h
def getN (l : Bytes) : Nat := l.foldl (fun v c => v * 256 + c.toNat) 0
theorem getN_snoc (l : Bytes) (c : UInt8) : getN (l ++ [c]) = getN l * 256 + c.toNat := by simp [getN]
theorem getN_lt (l : Bytes) : getN l < 256 ^ l.length := by
  induction l using snoc_ind with
  | h0 => simp [getN]
  | h1 l c ih =>
    rw [getN_snoc, List.length_append, List.length_singleton, Nat.pow_succ]
    have := c.toNat_lt
    omega
theorem or_low (a c : Nat) (hc : c < 256) : a * 256 ||| c = a * 256 + c := by
  have h := Nat.shiftLeft_add_eq_or_of_lt (b := c) (i := 8) (by omega) a
  rw [Nat.shiftLeft_eq] at h
  exact h.symm
theorem getBE_eq (l : Bytes) (h : l.length ≤ 8) : (getBE l).toNat = getN l := by
  induction l using snoc_ind with
  | h0 => rfl
  | h1 l c ih =>
    have hl : l.length ≤ 7 := by simpa using h
    have ih' := ih (by omega)
    have hlt := getN_lt l
    have hp : 256 ^ l.length ≤ 256 ^ 7 := Nat.pow_le_pow_right (by decide) hl
    have hc := c.toNat_lt
    rw [getBE_snoc, getN_snoc, UInt64.toNat_or, UInt64.toNat_shiftLeft, ih']
    have e1 : (getN l <<< ((8 : UInt64).toNat % 64)) % 2 ^ 64 = getN l * 256 := by
      rw [Nat.shiftLeft_eq]
      rw [Nat.mod_eq_of_lt]
      · rfl
      · show getN l * 256 < 2 ^ 64
        omega
    rw [e1]
    simp only [UInt8.toNat_toUInt64]
    exact or_low _ _ (by omega)
theorem getN_lt4 (l : Bytes) (h : l.length ≤ 4) : getN l < 4294967296 :=
  Nat.lt_of_lt_of_le (getN_lt l) (Nat.pow_le_pow_right (by decide) h)

/-- The shard of a slot. -/
def openF (l : Bytes) : Option (Nat × Nat × Bytes) :=
  if l.length < 10 then none
  else if frame (getN (l.take 4)) (l.getD 4 0).toNat ((l.drop 6).take (l.length - 10)) = l then some (getN (l.take 4), (l.getD 4 0).toNat, (l.drop 6).take (l.length - 10)) else none

theorem Bs.drewN {w : World} {S : Nat → Prop} {v : Value} {l : Bytes} (h : Bs w S v l) (n : Nat) : Bs (w.drewN n) S v l := by
  obtain ⟨ao, c, e, h1, h2, h3⟩ := h
  exact ⟨ao, c, e, h1, h2, h3⟩
theorem Bs.cut {w : World} {S : Nat → Prop} {b o n c : Nat} {l : Bytes} (h : Bs w S (.slice (some ⟨b, o, none⟩) n c) l) (i m : Nat) (hm : i + m ≤ n) : Bs w S (.slice (some ⟨b, o + i, none⟩) m (c - i)) ((l.drop i).take m) := by
  have hn := h.len
  obtain ⟨ao', c', e, h1, h2, h3⟩ := h
  injection e with e1 e2 e3
  subst e1; subst e2; subst e3
  have hl : ((l.drop i).take m).length = m := by simp; omega
  refine ⟨_, _, by rw [hl], by omega, by omega, ?_⟩
  rcases h3 with ⟨h3, _⟩ | ⟨b', o', e1, hs, hb, hc⟩
  · cases h3
  · injection e1 with e1; injection e1 with e1 e2; subst e1; subst e2
    refine .inr ⟨b, o + i, rfl, hs, hb, fun j hj => ?_⟩
    rw [Nat.add_assoc, hc (i + j) (by omega)]
    simp [List.getD_eq_getElem?_getD, show j < m by omega]

/-- What Open answers. -/
def OpenV (w : World) (r : Option (Nat × Nat × Bytes)) (v : Value) (w' : World) : Prop :=
  match r with
  | none => v = .tuple #[.int .i64 0, .int .i64 0, .slice none 0 0, .bool false]
  | some (s, p, b) => ∃ bv, v = .tuple #[.int .i64 s, .int .i64 p, bv, .bool true] ∧ Bs w' (Fresh w) bv b

set_option maxHeartbeats 1000000 in
set_option maxRecDepth 100000 in
theorem open_any {S : Nat → Prop} {v : Value} {l : Bytes} {w : World} (hB : Bs w S v l) (hn : l.length ≤ 1000000) :
    Calls Try.prog 72 #[v] w fun e w' => ∃ v', e = .returned v' ∧ OpenV w (openF l) v' w' ∧ Below w.heap.size w w' := by
  obtain ⟨ao, c, rfl⟩ : ∃ ao c, v = .slice ao l.length c := by obtain ⟨ao, c, rfl, _⟩ := hB; exact ⟨ao, c, rfl⟩
  by_cases h10 : l.length < 10
  · have : openF l = none := by simp [openF, h10]
    rw [this]
    go_enter Try.func72, Try.ntmps72
    go_wp2
    exact bodyPost_ret (v := .tuple #[.int .i64 0, .int .i64 0, .slice none 0 0, .bool false]) (by simp [results, Try.results72, go_sem]) rfl ⟨_, rfl, rfl, Below.refl _ _⟩
  · obtain ⟨b, o, rfl⟩ : ∃ b o, ao = some ⟨b, o, none⟩ := by
      obtain ⟨_, _, e, hlc, _, ⟨rfl, rfl⟩ | ⟨b, o, rfl, _⟩⟩ := hB
      · injection e with e1 e2 e3; omega
      · injection e with e1 e2 e3; exact ⟨b, o, e1⟩
    have hlc : l.length ≤ c := by obtain ⟨_, _, e, h, _⟩ := hB; injection e with _ _ e3; omega
    have hB1 := hB.take 4 (by omega)
    have hcell : w.cell? ⟨b, o + 4, none⟩ = some (.int .u8 ((l.getD 4 0).toNat : Int)) := by
      obtain ⟨_, _, e, _, _, ⟨rfl, rfl⟩ | ⟨b', o', rfl, _, _, hc⟩⟩ := hB
      · injection e with e1 _ _; cases e1
      · injection e with e1 e2 e3; injection e1 with e1; injection e1 with e1 e2; subst e1; subst e2; exact hc 4 (by omega)
    have hB2 := hB.cut 6 (l.length - 4 - 6) (by omega)
    have eo : openF l = if frame (getN (l.take 4)) (l.getD 4 0).toNat ((l.drop 6).take (l.length - 4 - 6)) = l then some (getN (l.take 4), (l.getD 4 0).toNat, (l.drop 6).take (l.length - 4 - 6)) else none := by
      rw [openF, if_neg h10, show l.length - 10 = l.length - 4 - 6 by omega]
    rw [eo]
    have hs4 := getN_lt4 (l.take 4) (by simp; omega)
    have hwr1 : wrap64 ((getBE (l.take 4)).toNat : Int) = (getN (l.take 4) : Int) := by
      rw [getBE_eq _ (by simp; omega)]; unfold wrap64; omega
    have hwr2 : ∀ x : UInt8, wrap64 (x.toNat : Int) = (x.toNat : Int) := fun x => by
      have := x.toNat_lt; unfold wrap64; omega
    generalize l.getD 4 0 = pv at hcell
    generalize getN (l.take 4) = sv at hwr1 hs4
    obtain ⟨lb, hlb⟩ : ∃ lb, lb = (l.drop 6).take (l.length - 4 - 6) := ⟨_, rfl⟩
    rw [← hlb] at hB2
    rw [← hlb]
    have hll : lb.length ≤ 1000000 := by rw [hlb]; simp; omega
    clear eo hlb
    have HS := Lib.hid hs4; clear hs4
    have h4 : (4 : Int) < (l.length : Int) := by omega
    have h4' : (4 : Int) ≤ (c : Int) := by omega
    have h6 : (6 : Int) ≤ (l.length : Int) - 4 := by omega
    have h6' : (l.length : Int) - 4 ≤ (c : Int) := by omega
    by_cases hfr : frame sv pv.toNat lb = l
    · rw [if_pos hfr]
      have hd : decide (frame sv pv.toNat lb = l) = true := by simpa using hfr
      clear hfr
      go_enter Try.func72, Try.ntmps72
      go_wp2
      go_quiet ((go_at_call 106; exact Calls.quiet_of_same ((get_any (hB1.drewN _) (by simp; omega)).mono fun _ _ ⟨h1, h2⟩ => ⟨h1, h2.symm⟩)))
      go_wp2_with (fail)
      refine (frame_any sv pv.toNat (Nat.lt_of_lt_of_le HS.out (by decide)) pv.toNat_lt (hB2.drewN _) hll).mono ?_
      rintro e w1 ⟨v1, rfl, hF, hb1⟩
      have hb1' : Below w.heap.size w w1 := ⟨hb1.os, hb1.tape, hb1.output, hb1.size, hb1.block⟩
      go_wp2_with (fail)
      refine (equal_any hF (hB.below hb1')).mono ?_
      rintro e w2 ⟨rfl, rfl⟩
      go_wp2_with (fail)
      refine (clone_any (hB2.below hb1') hll).mono ?_
      rintro e w3 ⟨v3, rfl, hC, hb3⟩
      go_wp2
      refine bodyPost_ret (v := .tuple #[.int .i64 sv, .int .i64 pv.toNat, v3, .bool true]) (by simp [results, Try.results72, go_sem]) rfl ⟨_, rfl, ⟨v3, rfl, hC.mono fun k _ h => ?_⟩, ?_⟩
      · exact Nat.le_trans hb1'.size h
      · exact hb1'.trans (hb3.mono hb1'.size)
    · rw [if_neg hfr]
      have hd : decide (frame sv pv.toNat lb = l) = false := by simpa using hfr
      clear hfr
      go_enter Try.func72, Try.ntmps72
      go_wp2
      go_quiet ((go_at_call 106; exact Calls.quiet_of_same ((get_any (hB1.drewN _) (by simp; omega)).mono fun _ _ ⟨h1, h2⟩ => ⟨h1, h2.symm⟩)))
      go_wp2_with (fail)
      refine (frame_any sv pv.toNat (Nat.lt_of_lt_of_le HS.out (by decide)) pv.toNat_lt (hB2.drewN _) hll).mono ?_
      rintro e w1 ⟨v1, rfl, hF, hb1⟩
      have hb1' : Below w.heap.size w w1 := ⟨hb1.os, hb1.tape, hb1.output, hb1.size, hb1.block⟩
      go_wp2_with (fail)
      refine (equal_any hF (hB.below hb1')).mono ?_
      rintro e w2 ⟨rfl, rfl⟩
      go_wp2
      exact bodyPost_ret (v := .tuple #[.int .i64 0, .int .i64 0, .slice none 0 0, .bool false]) (by simp [results, Try.results72, go_sem]) rfl ⟨_, rfl, rfl, hb1'⟩
end Go.Proofs.Fl

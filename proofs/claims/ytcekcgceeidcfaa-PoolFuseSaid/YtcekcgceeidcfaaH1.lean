import Derived.Test.YtcekcgceeidcfaaH0
namespace Go.Proofs.Fl
open Go.RowKit

theorem ret_u64 {a b : Int} (h : a = b) : Value.int .u64 a = .int .u64 b := by rw [h]
theorem ret_u32 {a b : Int} (h : a = b) : Value.int .u32 a = .int .u32 b := by rw [h]

/-! the number of bytes -/
def getBE (l : Bytes) : UInt64 := l.foldl (fun v c => v <<< 8 ||| c.toUInt64) 0
theorem getBE_step (r : UInt64) (c : UInt8) : bits BinOp.or IntKind.u64 (IntKind.u64.wrap ((r.toNat : Int) * 256)) (IntKind.u64.wrap (c.toNat : Int)) = ((r <<< 8 ||| c.toUInt64).toNat : Int) := by
  have h1 : IntKind.u64.wrap ((r.toNat : Int) * 256) = ((r.toNat * 256 % 18446744073709551616 : Nat) : Int) := by
    simp [IntKind.wrap, IntKind.bits, IntKind.signed]
  have hc := c.toNat_lt
  have h2 : IntKind.u64.wrap (c.toNat : Int) = ((c.toNat : Nat) : Int) := by
    simp [IntKind.wrap, IntKind.bits, IntKind.signed]
    omega
  rw [h1, h2, u64_or_nat _ _ (Nat.mod_lt _ (by decide)) (by omega)]
  rw [UInt64.toNat_or, UInt64.toNat_shiftLeft]
  simp [Nat.shiftLeft_eq]
theorem getBE_snoc (l : Bytes) (c : UInt8) : getBE (l ++ [c]) = (getBE l) <<< 8 ||| c.toUInt64 := by simp [getBE]
theorem take_snoc' (l : Bytes) (k : Nat) (h : k < l.length) : l.take (k + 1) = l.take k ++ [l.getD k 0] := by
  rw [List.take_succ_eq_append_getElem h]; simp [h]

set_option maxHeartbeats 400000 in
set_option maxRecDepth 100000 in
theorem get_any {S : Nat → Prop} {v : Value} {l : Bytes} {w : World} (hB : Bs w S v l) (hn : l.length ≤ 1000000) :
    Calls Try.prog 106 #[v] w fun e w' => e = .returned (.int .u64 (getBE l).toNat) ∧ w = w' := by
  obtain ⟨ao, c, rfl, hlc, hcm, hsh⟩ := hB
  have hao : 0 < l.length → ∃ b o, ao = some ⟨b, o, none⟩ ∧ ∀ j, j < l.length → w.cell? ⟨b, o + j, none⟩ = some (.int .u8 ((l.getD j 0).toNat : Int)) := by
    intro h
    rcases hsh with ⟨rfl, rfl⟩ | ⟨b, o', rfl, _, hbw, hc⟩
    · omega
    · exact ⟨b, o', rfl, hc⟩
  clear hsh hcm
  have HA := Lib.hid hao; clear hao
  go_enter Try.func106, Try.ntmps106
  go_wp2
  go_loop [3, 8] (fun v i => ∃ (k : Nat), k ≤ l.length ∧ i = .int .i64 k ∧ v = .int .u64 (getBE (l.take k)).toNat)
    (fun _ i => l.length - (intOf i).toNat)
  case atStart => exact ⟨0, by omega, rfl, rfl⟩
  case round =>
    obtain ⟨k, hk, rfl, rfl⟩ := hrel
    by_cases hlt : k < l.length
    · obtain ⟨b, o', rfl, hc⟩ := HA.out (by omega)
      have hcell := hc k hlt
      clear hc
      go_wp2
      go_round
      case rel => exact ⟨k + 1, by omega, by go_num, ret_u64 (by rw [take_snoc' l k hlt, getBE_snoc, ← getBE_step]; simp [hlt])⟩
      case measure => simp [intOf]; omega
    · obtain rfl : k = l.length := by omega
      go_wp2
      go_ret
      exact ⟨by simp, rfl⟩

/-! the sum of bytes -/
def crcBit (v : UInt32) : UInt32 := (v >>> 1) ^^^ (2197175160 * (v &&& 1))
def crcBits : Nat → UInt32 → UInt32 | 0, v => v | k + 1, v => crcBit (crcBits k v)
def crcByte (v : UInt32) (c : UInt8) : UInt32 := crcBits 8 (v ^^^ c.toUInt32)
def crcRun (l : Bytes) : UInt32 := l.foldl crcByte 4294967295
def crc (l : Bytes) : UInt32 := 4294967295 ^^^ crcRun l
theorem crcRun_snoc (l : Bytes) (c : UInt8) : crcRun (l ++ [c]) = crcByte (crcRun l) c := by simp [crcRun]
theorem crcBit_step (r : UInt32) : bits BinOp.xor IntKind.u32 ((r.toNat : Int) / 2) (2197175160 * bits BinOp.and IntKind.u32 (r.toNat : Int) 1 % 4294967296) = ((crcBit r).toNat : Int) := by
  have hr := r.toNat_lt
  have h1 : bits BinOp.and IntKind.u32 (r.toNat : Int) 1 = ((r.toNat &&& 1 : Nat) : Int) := u32_and_nat r.toNat 1 (by omega) (by decide)
  have h2 : (r.toNat : Int) / 2 = ((r.toNat / 2 : Nat) : Int) := by omega
  have h3 : (2197175160 : Int) * ((r.toNat &&& 1 : Nat) : Int) % 4294967296 = ((2197175160 * (r.toNat &&& 1) % 4294967296 : Nat) : Int) := by omega
  rw [h1, h2, h3, u32_xor_nat _ _ (by omega) (Nat.mod_lt _ (by decide))]
  unfold crcBit
  rw [UInt32.toNat_xor, UInt32.toNat_shiftRight, UInt32.toNat_mul, UInt32.toNat_and]
  congr 2
theorem crcIn_step (r : UInt32) (c : UInt8) : bits BinOp.xor IntKind.u32 (r.toNat : Int) ((c.toNat : Int) % 4294967296) = ((r ^^^ c.toUInt32).toNat : Int) := by
  have hr := r.toNat_lt
  have hc := c.toNat_lt
  have h3 : (c.toNat : Int) % 4294967296 = ((c.toNat : Nat) : Int) := by omega
  rw [h3, u32_xor_nat _ _ (by omega) (by omega), UInt32.toNat_xor]
  congr 2
theorem crcOut_step (r : UInt32) : bits BinOp.xor IntKind.u32 IntKind.u32.max (r.toNat : Int) = ((4294967295 ^^^ r).toNat : Int) := by
  have hr := r.toNat_lt
  have h : IntKind.u32.max = ((4294967295 : Nat) : Int) := rfl
  rw [h, u32_xor_nat _ _ (by decide) (by omega), UInt32.toNat_xor]
  rfl
theorem crcBits_succ (k : Nat) (v : UInt32) : crcBits (k + 1) v = crcBit (crcBits k v) := rfl

set_option maxHeartbeats 800000 in
set_option maxRecDepth 100000 in
theorem crc_any {S : Nat → Prop} {v : Value} {l : Bytes} {w : World} (hB : Bs w S v l) (hn : l.length ≤ 1000000) :
    Calls Try.prog 102 #[v] w fun e w' => e = .returned (.int .u32 (crc l).toNat) ∧ w = w' := by
  obtain ⟨ao, c, rfl, hlc, hcm, hsh⟩ := hB
  have hao : 0 < l.length → ∃ b o, ao = some ⟨b, o, none⟩ ∧ ∀ j, j < l.length → w.cell? ⟨b, o + j, none⟩ = some (.int .u8 ((l.getD j 0).toNat : Int)) := by
    intro h
    rcases hsh with ⟨rfl, rfl⟩ | ⟨b, o', rfl, _, hbw, hc⟩
    · omega
    · exact ⟨b, o', rfl, hc⟩
  clear hsh hcm
  have HA := Lib.hid hao; clear hao
  go_enter Try.func102, Try.ntmps102
  go_wp2
  go_loop [3, 8] (fun v i => ∃ (k : Nat), k ≤ l.length ∧ i = .int .i64 k ∧ v = .int .u32 (crcRun (l.take k)).toNat)
    (fun _ i => l.length - (intOf i).toNat)
  case atStart => exact ⟨0, by omega, rfl, rfl⟩
  case round =>
    obtain ⟨k, hk, rfl, rfl⟩ := hrel
    by_cases hlt : k < l.length
    · obtain ⟨b, o', rfl, hc⟩ := HA.out (by omega)
      have hcell := hc k hlt
      clear hc
      go_wp2
      go_loop [3, 16] (fun v i => ∃ (j : Nat), j ≤ 8 ∧ i = .int .i64 j ∧ v = .int .u32 (crcBits j (crcRun (l.take k) ^^^ (l.getD k 0).toUInt32)).toNat)
        (fun _ i => 8 - (intOf i).toNat)
      case atStart => exact ⟨0, by omega, rfl, ret_u32 (by rw [show crcBits 0 (crcRun (l.take k) ^^^ (l.getD k 0).toUInt32) = crcRun (l.take k) ^^^ (l.getD k 0).toUInt32 from rfl, ← crcIn_step]; simp [hlt])⟩
      case round =>
        obtain ⟨j, hj, rfl, rfl⟩ := hrel
        by_cases hjl : j < 8
        · go_wp2
          go_round
          case rel => exact ⟨j + 1, by omega, by go_num, ret_u32 (by rw [crcBits_succ, ← crcBit_step]; simp [hlt])⟩
          case measure => simp [intOf]; omega
        · obtain rfl : j = 8 := by omega
          go_wp2
          go_round
          case rel => exact ⟨k + 1, by omega, by go_num, ret_u32 (by rw [take_snoc' l k hlt, crcRun_snoc]; rfl)⟩
          case measure => simp [intOf]; omega
    · obtain rfl : k = l.length := by omega
      go_wp2
      go_ret
      exact ⟨by simp only [crc, ← crcOut_step]; rfl, rfl⟩
end Go.Proofs.Fl

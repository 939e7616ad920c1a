import Derived.Test.YtcekcgceeidcfaaL0
import Derived.Test.YtcekcgceeidcfaaProg
namespace Go.Proofs.Fl
open Go.RowKit

abbrev tU8 : TypeId := 5
abbrev tBytes : TypeId := 28
theorem E28 : Elem Try.prog tBytes tU8 (.int .u8 0) 1 1 := ⟨Try.underlying28, by kernel_rfl, by decide, by decide⟩

/-- the number in 'size' bytes, the highest first -/
def putBE (x : Nat) (size : Nat) : Bytes := (List.range size).reverse.map fun n => UInt8.ofNat (x / 2 ^ (8 * n))
@[simp] theorem putBE_length (x size : Nat) : (putBE x size).length = size := by simp [putBE]
theorem putBE_take (x size k : Nat) (h : k < size) : (putBE x size).take (k + 1) = (putBE x size).take k ++ [UInt8.ofNat (x / 2 ^ (8 * (size - k - 1)))] := by
  rw [List.take_succ_eq_append_getElem (by simpa using h)]
  simp [putBE]
  congr 3; omega
theorem u8v_ofNat (x : Nat) : u8v (UInt8.ofNat x) = .int .u8 ((x : Int) % 256) := by simp [u8v]
theorem u8s_snoc (l : Bytes) (x : Nat) : u8s l ++ [.int .u8 ((x : Int) % 256)] = u8s (l ++ [UInt8.ofNat x]) := by rw [u8s_append, ← u8v_ofNat]; rfl

set_option maxHeartbeats 400000 in
set_option maxRecDepth 100000 in
theorem put_any (base : Nat) (v : Value) (n : Nat) (l : Bytes) (x size : Nat) (w : World) (hs : size ≤ 8) (hn : n ≤ 1000000) (hb : base ≤ w.heap.size) (hown : w.ownsRow base tU8 1 v n (u8s l)) :
    Calls Try.prog 101 #[v, .int .u64 x, .int .i64 size] w fun e w' => ∃ v', e = .returned v' ∧ w'.ownsRow base tU8 1 v' (n + size) (u8s (l ++ putBE x size)) ∧ Grew w v w' v' := by
  go_enter Try.func101, Try.ntmps101
  go_wp2
  go_loopw [0, 7] (fun u i wr => ∃ k : Nat, k ≤ size ∧ i = .int .i64 ((size : Int) - k - 1) ∧ wr.ownsRow base tU8 1 u (n + k) (u8s (l ++ (putBE x size).take k)) ∧ Grew w v wr u)
    (fun _ i _ => (intOf i + 1).toNat)
  case atStart => exact ⟨0, by omega, by simp, by simpa using hown, Grew.refl _ _⟩
  case round =>
    obtain ⟨k, hk, rfl, hown, hg⟩ := hrel
    by_cases hlt : k < size
    · have hlt' : (0 : Int) ≤ (size : Int) - k - 1 := by omega
      go_wp2_with (at_builtin; refine wpList_app_new rfl _ _ _ rfl E28 base _ 1 hown rfl rfl rfl ?h1 (by omega) (by decide) (by have := hg.by_.size; omega) ?_)
      case h1 => simp [Value.oneCell']
      intro v' w' hown' hg' _
      have hg2 := hg.trans hg'
      have hown2 : w'.ownsRow base tU8 1 v' (n + (k + 1)) (u8s (l ++ (putBE x size).take (k + 1))) := by
        rw [putBE_take _ _ _ hlt, ← List.append_assoc, ← u8s_snoc]
        simpa [Nat.add_assoc] using hown'
      clear hown' hg' hown hg
      go_wp2
      go_roundw
      case rel => exact ⟨k + 1, by omega, by go_num, hown2, hg2⟩
      case measure => simp [intOf]; omega
    · obtain rfl : k = size := by omega
      go_wp2
      go_ret
      exact ⟨_, rfl, by simpa [List.take_of_length_le] using hown, hg⟩
end Go.Proofs.Fl

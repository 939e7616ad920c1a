import Derived.Test.YtficmalfoeaibaaXG0
import Derived.Test.YtficmalfoeaibaaXL1
import Derived.Laws.OwnMore
namespace Go.Proofs.Fl
open Go.RowKit

theorem inv_any (a : UInt8) (w : World) : Calls Try.prog 112 #[.int .u8 a.toNat] w fun e w' => e = .returned (.int .u8 (ginv a).toNat) ∧ w = w' := by
  go_enter Try.func112, Try.ntmps112
  go_wp2_with (fail)
  refine (pow_any a w).mono ?_
  rintro e w1 ⟨rfl, rfl⟩
  go_wp2
  go_ret
  exact ⟨rfl, rfl⟩

/-! ### to a row another one so many times -/
/-- the first k bytes of the row have been added to -/
def addK (x : UInt8) (l r : Bytes) : Nat → Bytes
  | 0 => r
  | k + 1 => (addK x l r k).set k (r.getD k 0 ^^^ gmul x (l.getD k 0))
def addS (r l : Bytes) (x : UInt8) : Bytes := addK x l r l.length
@[simp] theorem addK_length (x : UInt8) (l r : Bytes) (k : Nat) : (addK x l r k).length = r.length := by induction k <;> simp_all [addK]
theorem addK_get (x : UInt8) (l r : Bytes) (k j : Nat) (hj : j < r.length) : (addK x l r k).getD j 0 = if j < k then r.getD j 0 ^^^ gmul x (l.getD j 0) else r.getD j 0 := by
  induction k with
  | zero => simp [addK]
  | succ k ih =>
    show ((addK x l r k).set k _).getD j 0 = _
    rw [List.getD_eq_getElem?_getD, List.getElem?_set]
    by_cases h : k = j
    · subst h
      rw [if_pos rfl, if_pos (by simpa using hj), if_pos (by omega)]; rfl
    · rw [if_neg h, ← List.getD_eq_getElem?_getD, ih]
      by_cases h2 : j < k
      · rw [if_pos h2, if_pos (by omega)]
      · rw [if_neg h2, if_neg (by omega)]
@[simp] theorem addS_length (r l : Bytes) (x : UInt8) : (addS r l x).length = r.length := by simp [addS]
theorem addS_get (r l : Bytes) (x : UInt8) (j : Nat) (hj : j < r.length) : (addS r l x).getD j 0 = if j < l.length then r.getD j 0 ^^^ gmul x (l.getD j 0) else r.getD j 0 := addK_get x l r l.length j hj

theorem u8s_set (l : Bytes) (j : Nat) (x : UInt8) : (u8s l).set j (.int .u8 (x.toNat : Int)) = u8s (l.set j x) := by
  unfold u8s; rw [List.map_set]; rfl
theorem u8s_at (l : Bytes) (j : Nat) (h : j < l.length) : (u8s l)[j]? = some (.int .u8 ((l.getD j 0).toNat : Int)) := by
  simp [u8s, u8v, List.getElem?_eq_getElem h, List.getD_eq_getElem?_getD]
theorem Bs.cellAt {w : World} {S : Nat → Prop} {v : Value} {l : Bytes} (h : Bs w S v l) (hl : 0 < l.length) : ∃ b o c, v = .slice (some ⟨b, o, none⟩) l.length c ∧ S b ∧ b < w.heap.size ∧ ∀ j, j < l.length → w.cell? ⟨b, o + j, none⟩ = some (.int .u8 ((l.getD j 0).toNat : Int)) := by
  obtain ⟨ao, c, rfl, h1, h2, h3⟩ := h
  rcases h3 with ⟨rfl, rfl⟩ | ⟨b, o, rfl, hs, hb, hc⟩
  · omega
  · exact ⟨b, o, c, rfl, hs, hb, hc⟩
theorem xor_u8 (a b : UInt8) : bits BinOp.xor IntKind.u8 (a.toNat : Int) (b.toNat : Int) = ((a ^^^ b).toNat : Int) := by
  rw [u8_xor_nat _ _ a.toNat_lt b.toNat_lt, UInt8.toNat_xor]

theorem grown_drew {w w' : World} {row : Option Nat} (h : w.grownBy w' row) : w.grownBy w'.drew row := ⟨h.os, h.tape, h.output, h.size, h.block⟩
theorem own_form {w : World} {base size n : Nat} {e : TypeId} {v : Value} {xs : List Value} (h : w.ownsRow base e size v n xs) (hn : 0 < n) : ∃ g cap, v = .slice (some ⟨g, 0, none⟩) n cap := by
  rcases h.2 with ⟨_, h0⟩ | ⟨g, cap, cur, rfl, _⟩
  · omega
  · exact ⟨g, cap, rfl⟩

set_option maxHeartbeats 800000 in
set_option maxRecDepth 100000 in
theorem add_any (base : Nat) (rv ov : Value) (r l : Bytes) (x : UInt8) (S : Nat → Prop) (w : World) (hown : w.ownsRow base tU8 1 rv r.length (u8s r)) (hB : Bs w S ov l) (hS : ∀ g, rv.ownBlock = some g → ¬ S g) (hle : l.length ≤ r.length) (hr : r.length ≤ 1000000) :
    Calls Try.prog 117 #[rv, ov, .int .u8 x.toNat] w fun e w' => e = .returned (.tuple #[]) ∧ w'.ownsRow base tU8 1 rv r.length (u8s (addS r l x)) ∧ w.grownBy w' rv.ownBlock := by
  by_cases h0 : l.length = 0
  · obtain ⟨ao, c, rfl⟩ := hB.shape
    have e0 : addS r l x = r := by unfold addS; rw [h0]; rfl
    rw [h0, e0]
    have H := Lib.hid hown
    clear hown hB hS e0
    go_enter Try.func117, Try.ntmps117
    go_wp2
    go_loop [10] (fun i => i = .int .i64 0) (fun _ => 0)
    case atStart => rfl
    case round =>
      obtain rfl := hrel
      go_wp2
      go_end0
      exact ⟨rfl, H.out, World.grownBy.refl _ _⟩
  · obtain ⟨b, o, c, rfl, hs, hbw, hcell⟩ := hB.cellAt (by omega)
    obtain ⟨g, cap, rfl⟩ := own_form hown (by omega)
    have hgb : ¬ b = g := fun e => hS g rfl (e ▸ hs)
    have HC := Lib.hid hcell; have HO := Lib.hid hown
    clear hcell hown hS hB
    go_enter Try.func117, Try.ntmps117
    go_wp2
    go_loopw [10] (fun i wr => ∃ k : Nat, k ≤ l.length ∧ i = .int .i64 k ∧ wr.ownsRow base tU8 1 (.slice (some ⟨g, 0, none⟩) r.length cap) r.length (u8s (addK x l r k)) ∧ w.grownBy wr (some g))
      (fun i _ => l.length - (intOf i).toNat)
    case atStart => exact ⟨0, by omega, rfl, HO.out, World.grownBy.refl _ _⟩
    case round =>
      obtain ⟨k, hk, rfl, ho, hg⟩ := hrel
      by_cases hlt : k < l.length
      · have c1 : wr.cell? ⟨b, o + k, none⟩ = some (.int .u8 ((l.getD k 0).toNat : Int)) := (World.cell?_of_block (w := w) (hg.block b hbw (fun e => hgb (by injection e)))).trans (HC.out k hlt)
        have c2 : wr.cell? ⟨g, k, none⟩ = some (.int .u8 ((r.getD k 0).toNat : Int)) := by
          rw [ho.cellAt k (by omega), u8s_at _ _ (by simp; omega), addK_get _ _ _ _ _ (by omega), if_neg (by omega)]
        have c3 := ho.frozenAt k
        have st := ho.stored k (.int .u8 ((r.getD k 0 ^^^ gmul x (l.getD k 0)).toNat : Int))
        rw [u8s_set] at st
        have e1 : addK x l r (k + 1) = (addK x l r k).set k (r.getD k 0 ^^^ gmul x (l.getD k 0)) := rfl
        rw [← e1, UInt8.toNat_xor] at st
        have hxx := xor_u8 (r.getD k 0) (gmul x (l.getD k 0))
        have ST := Lib.hid st
        have hkr : k < r.length := by omega
        have hkr' : (k : Int) < (r.length : Int) := by omega
        clear st ho e1
        generalize l.getD k 0 = lk at *
        generalize r.getD k 0 = rk at *
        go_wp2
        go_region_law ((go_simp; go_at_call 127; refine (mul_any _ _ _).mono ?_; rintro e w1 ⟨rfl, rfl⟩))
        all_goals
          go_wp2
          go_roundw
          case rel => exact ⟨k + 1, by omega, by go_num, ST.out.1, grown_drew (hg.trans ST.out.2)⟩
          case measure => simp [intOf]; omega
      · obtain rfl : k = l.length := by omega
        go_wp2
        go_end0
        exact ⟨rfl, ho, hg⟩
end Go.Proofs.Fl

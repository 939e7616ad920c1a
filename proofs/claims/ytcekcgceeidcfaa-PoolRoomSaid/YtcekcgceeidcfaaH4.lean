import Derived.Test.YtcekcgceeidcfaaH3
import Derived.Deep.QuietTactic
import Derived.BigQuiet
namespace Go.Proofs.Fl
open Go.RowKit

/-! ### the number of bytes, as a natural number -/
theorem snoc_ind {α : Type} {P : List α → Prop} (h0 : P []) (h1 : ∀ l x, P l → P (l ++ [x])) (l : List α) : P l := by
  have : ∀ r : List α, P r.reverse := fun r => by
    induction r with
    | nil => exact h0
    | cons x r ih => rw [List.reverse_cons]; exact h1 _ _ ih
  have h := this l.reverse
  rwa [List.reverse_reverse] at h
def getN (l : Bytes) : Nat := l.foldl (fun v c => v * 256 + c.toNat) 0
theorem getN_snoc (l : Bytes) (c : UInt8) : getN (l ++ [c]) = getN l * 256 + c.toNat := by simp [getN]
theorem getN_lt (l : Bytes) : getN l < 256 ^ l.length := by
  induction l using snoc_ind with
  | h0 => simp [getN]
  | h1 l c ih =>
    rw [getN_snoc, List.length_append, List.length_singleton, Nat.pow_succ]
    have := c.toNat_lt
    omega
theorem or_low (a c : Nat) (hc : c < 256) : a * 256 ||| c = a * 256 + c := by
  have h := Nat.shiftLeft_add_eq_or_of_lt (b := c) (i := 8) (by omega) a
  rw [Nat.shiftLeft_eq] at h
  exact h.symm
theorem getBE_eq (l : Bytes) (h : l.length ≤ 8) : (getBE l).toNat = getN l := by
  induction l using snoc_ind with
  | h0 => rfl
  | h1 l c ih =>
    have hl : l.length ≤ 7 := by simpa using h
    have ih' := ih (by omega)
    have hlt := getN_lt l
    have hp : 256 ^ l.length ≤ 256 ^ 7 := Nat.pow_le_pow_right (by decide) hl
    have hc := c.toNat_lt
    rw [getBE_snoc, getN_snoc, UInt64.toNat_or, UInt64.toNat_shiftLeft, ih']
    have e1 : (getN l <<< ((8 : UInt64).toNat % 64)) % 2 ^ 64 = getN l * 256 := by
      rw [Nat.shiftLeft_eq]
      rw [Nat.mod_eq_of_lt]
      · rfl
      · show getN l * 256 < 2 ^ 64
        omega
    rw [e1]
    simp only [UInt8.toNat_toUInt64]
    exact or_low _ _ (by omega)
theorem getN_lt4 (l : Bytes) (h : l.length ≤ 4) : getN l < 4294967296 :=
  Nat.lt_of_lt_of_le (getN_lt l) (Nat.pow_le_pow_right (by decide) h)

/-- The shard of a slot. -/
def openF (l : Bytes) : Option (Nat × Nat × Bytes) :=
  if l.length < 10 then none
  else if frame (getN (l.take 4)) (l.getD 4 0).toNat ((l.drop 6).take (l.length - 10)) = l then some (getN (l.take 4), (l.getD 4 0).toNat, (l.drop 6).take (l.length - 10)) else none

theorem Bs.drewN {w : World} {S : Nat → Prop} {v : Value} {l : Bytes} (h : Bs w S v l) (n : Nat) : Bs (w.drewN n) S v l := by
  obtain ⟨ao, c, e, h1, h2, h3⟩ := h
  exact ⟨ao, c, e, h1, h2, h3⟩
theorem Bs.cut {w : World} {S : Nat → Prop} {b o n c : Nat} {l : Bytes} (h : Bs w S (.slice (some ⟨b, o, none⟩) n c) l) (i m : Nat) (hm : i + m ≤ n) : Bs w S (.slice (some ⟨b, o + i, none⟩) m (c - i)) ((l.drop i).take m) := by
  have hn := h.len
  obtain ⟨ao', c', e, h1, h2, h3⟩ := h
  injection e with e1 e2 e3
  subst e1; subst e2; subst e3
  have hl : ((l.drop i).take m).length = m := by simp; omega
  refine ⟨_, _, by rw [hl], by omega, by omega, ?_⟩
  rcases h3 with ⟨h3, _⟩ | ⟨b', o', e1, hs, hb, hc⟩
  · cases h3
  · injection e1 with e1; injection e1 with e1 e2; subst e1; subst e2
    refine .inr ⟨b, o + i, rfl, hs, hb, fun j hj => ?_⟩
    rw [Nat.add_assoc, hc (i + j) (by omega)]
    simp [List.getD_eq_getElem?_getD, show j < m by omega]

/-- What Open answers. -/
def OpenV (w : World) (r : Option (Nat × Nat × Bytes)) (v : Value) (w' : World) : Prop :=
  match r with
  | none => v = .tuple #[.int .i64 0, .int .i64 0, .slice none 0 0, .bool false]
  | some (s, p, b) => ∃ bv, v = .tuple #[.int .i64 s, .int .i64 p, bv, .bool true] ∧ Bs w' (Fresh w) bv b

set_option maxHeartbeats 1000000 in
set_option maxRecDepth 100000 in
theorem open_any {S : Nat → Prop} {v : Value} {l : Bytes} {w : World} (hB : Bs w S v l) (hn : l.length ≤ 1000000) :
    Calls Try.prog 72 #[v] w fun e w' => ∃ v', e = .returned v' ∧ OpenV w (openF l) v' w' ∧ Below w.heap.size w w' := by
  obtain ⟨ao, c, rfl⟩ : ∃ ao c, v = .slice ao l.length c := by obtain ⟨ao, c, rfl, _⟩ := hB; exact ⟨ao, c, rfl⟩
  by_cases h10 : l.length < 10
  · have : openF l = none := by simp [openF, h10]
    rw [this]
    go_enter Try.func72, Try.ntmps72
    go_wp2
    exact bodyPost_ret (v := .tuple #[.int .i64 0, .int .i64 0, .slice none 0 0, .bool false]) (by simp [results, Try.results72, go_sem]) rfl ⟨_, rfl, rfl, Below.refl _ _⟩
  · obtain ⟨b, o, rfl⟩ : ∃ b o, ao = some ⟨b, o, none⟩ := by
      obtain ⟨_, _, e, hlc, _, ⟨rfl, rfl⟩ | ⟨b, o, rfl, _⟩⟩ := hB
      · injection e with e1 e2 e3; omega
      · injection e with e1 e2 e3; exact ⟨b, o, e1⟩
    have hlc : l.length ≤ c := by obtain ⟨_, _, e, h, _⟩ := hB; injection e with _ _ e3; omega
    have hB1 := hB.take 4 (by omega)
    have hcell : w.cell? ⟨b, o + 4, none⟩ = some (.int .u8 ((l.getD 4 0).toNat : Int)) := by
      obtain ⟨_, _, e, _, _, ⟨rfl, rfl⟩ | ⟨b', o', rfl, _, _, hc⟩⟩ := hB
      · injection e with e1 _ _; cases e1
      · injection e with e1 e2 e3; injection e1 with e1; injection e1 with e1 e2; subst e1; subst e2; exact hc 4 (by omega)
    have hB2 := hB.cut 6 (l.length - 4 - 6) (by omega)
    have eo : openF l = if frame (getN (l.take 4)) (l.getD 4 0).toNat ((l.drop 6).take (l.length - 4 - 6)) = l then some (getN (l.take 4), (l.getD 4 0).toNat, (l.drop 6).take (l.length - 4 - 6)) else none := by
      rw [openF, if_neg h10, show l.length - 10 = l.length - 4 - 6 by omega]
    rw [eo]
    have hs4 := getN_lt4 (l.take 4) (by simp; omega)
    have hwr1 : wrap64 ((getBE (l.take 4)).toNat : Int) = (getN (l.take 4) : Int) := by
      rw [getBE_eq _ (by simp; omega)]; unfold wrap64; omega
    have hwr2 : ∀ x : UInt8, wrap64 (x.toNat : Int) = (x.toNat : Int) := fun x => by
      have := x.toNat_lt; unfold wrap64; omega
    generalize l.getD 4 0 = pv at hcell
    generalize getN (l.take 4) = sv at hwr1 hs4
    obtain ⟨lb, hlb⟩ : ∃ lb, lb = (l.drop 6).take (l.length - 4 - 6) := ⟨_, rfl⟩
    rw [← hlb] at hB2
    rw [← hlb]
    have hll : lb.length ≤ 1000000 := by rw [hlb]; simp; omega
    clear eo hlb
    have HS := Lib.hid hs4; clear hs4
    have h4 : (4 : Int) < (l.length : Int) := by omega
    have h4' : (4 : Int) ≤ (c : Int) := by omega
    have h6 : (6 : Int) ≤ (l.length : Int) - 4 := by omega
    have h6' : (l.length : Int) - 4 ≤ (c : Int) := by omega
    by_cases hfr : frame sv pv.toNat lb = l
    · rw [if_pos hfr]
      have hd : decide (frame sv pv.toNat lb = l) = true := by simpa using hfr
      clear hfr
      go_enter Try.func72, Try.ntmps72
      go_wp2
      go_quiet ((go_at_call 106; exact Calls.quiet_of_same ((get_any (hB1.drewN _) (by simp; omega)).mono fun _ _ ⟨h1, h2⟩ => ⟨h1, h2.symm⟩)))
      go_wp2_with (fail)
      refine (frame_any sv pv.toNat (Nat.lt_of_lt_of_le HS.out (by decide)) pv.toNat_lt (hB2.drewN _) hll).mono ?_
      rintro e w1 ⟨v1, rfl, hF, hb1⟩
      have hb1' : Below w.heap.size w w1 := ⟨hb1.os, hb1.tape, hb1.output, hb1.size, hb1.block⟩
      go_wp2_with (fail)
      refine (equal_any hF (hB.below hb1')).mono ?_
      rintro e w2 ⟨rfl, rfl⟩
      go_wp2_with (fail)
      refine (clone_any (hB2.below hb1') hll).mono ?_
      rintro e w3 ⟨v3, rfl, hC, hb3⟩
      go_wp2
      refine bodyPost_ret (v := .tuple #[.int .i64 sv, .int .i64 pv.toNat, v3, .bool true]) (by simp [results, Try.results72, go_sem]) rfl ⟨_, rfl, ⟨v3, rfl, hC.mono fun k _ h => ?_⟩, ?_⟩
      · exact Nat.le_trans hb1'.size h
      · exact hb1'.trans (hb3.mono hb1'.size)
    · rw [if_neg hfr]
      have hd : decide (frame sv pv.toNat lb = l) = false := by simpa using hfr
      clear hfr
      go_enter Try.func72, Try.ntmps72
      go_wp2
      go_quiet ((go_at_call 106; exact Calls.quiet_of_same ((get_any (hB1.drewN _) (by simp; omega)).mono fun _ _ ⟨h1, h2⟩ => ⟨h1, h2.symm⟩)))
      go_wp2_with (fail)
      refine (frame_any sv pv.toNat (Nat.lt_of_lt_of_le HS.out (by decide)) pv.toNat_lt (hB2.drewN _) hll).mono ?_
      rintro e w1 ⟨v1, rfl, hF, hb1⟩
      have hb1' : Below w.heap.size w w1 := ⟨hb1.os, hb1.tape, hb1.output, hb1.size, hb1.block⟩
      go_wp2_with (fail)
      refine (equal_any hF (hB.below hb1')).mono ?_
      rintro e w2 ⟨rfl, rfl⟩
      go_wp2
      exact bodyPost_ret (v := .tuple #[.int .i64 0, .int .i64 0, .slice none 0 0, .bool false]) (by simp [results, Try.results72, go_sem]) rfl ⟨_, rfl, rfl, hb1'⟩
end Go.Proofs.Fl

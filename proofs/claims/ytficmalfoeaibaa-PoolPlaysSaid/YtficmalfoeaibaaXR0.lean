import Derived.Test.YtficmalfoeaibaaXP5toP12
namespace Go.Proofs.Fl
open Go.RowKit

theorem putBE4 (x : Nat) : putBE x 4 = [UInt8.ofNat (x / 2 ^ 24), UInt8.ofNat (x / 2 ^ 16), UInt8.ofNat (x / 2 ^ 8), UInt8.ofNat x] := by
  simp [putBE, List.range_succ]
theorem getN_put4 (x : Nat) (h : x < 4294967296) : getN (putBE x 4) = x := by
  rw [putBE4]
  simp only [getN, List.foldl_cons, List.foldl_nil, UInt8.toNat_ofNat']
  omega
theorem openF_nil : openF [] = none := by simp [openF]
theorem openF_frame (s p : Nat) (b : Bytes) (hs : s < 4294967296) (hp : p < 256) (hb : b.length ≤ 50) : openF (frame s p b) = some (s, p, b) := by
  have ht : b.take 50 = b := List.take_of_length_le hb
  have hlen : (frame s p b).length = 10 + b.length := by
    unfold frame frameHead; rw [ht]; simp; omega
  have e : frame s p b = putBE s 4 ++ (UInt8.ofNat p :: UInt8.ofNat b.length :: (b ++ putBE (crc (frameHead s p b)).toNat 4)) := by
    unfold frame; rw [ht]; simp [frameHead]
  have e1 : (frame s p b).take 4 = putBE s 4 := by rw [e, List.take_append_of_le_length (by simp), List.take_of_length_le (by simp)]
  have e2 : (frame s p b).getD 4 0 = UInt8.ofNat p := by
    rw [e, List.getD_eq_getElem?_getD, List.getElem?_append_right (by simp)]; simp
  have e3 : ((frame s p b).drop 6).take ((frame s p b).length - 10) = b := by
    rw [hlen, e]
    have : putBE s 4 ++ (UInt8.ofNat p :: UInt8.ofNat b.length :: (b ++ putBE (crc (frameHead s p b)).toNat 4)) = (putBE s 4 ++ [UInt8.ofNat p, UInt8.ofNat b.length]) ++ (b ++ putBE (crc (frameHead s p b)).toNat 4) := by simp
    rw [this, List.drop_append_of_le_length (by simp), List.drop_of_length_le (by simp), List.nil_append, List.take_append_of_le_length (by omega), List.take_of_length_le (by omega)]
  have e4 : (UInt8.ofNat p).toNat = p := by simp; omega
  unfold openF
  rw [if_neg (by omega), e1, e2, e3, getN_put4 s hs, e4, if_pos rfl]
theorem hasB_nil (S K : Int) : hasB S K [] = false := by simp [hasB, openF_nil]
theorem hasB_frame (s p : Nat) (b : Bytes) (hs : s < 4294967296) (hp : p < 256) (hb : b.length ≤ 50) (S K : Int) : hasB S K (frame s p b) = (((s : Int) == S) && ((p : Int) == K)) := by
  simp only [hasB, openF_frame s p b hs hp hb]

/-! what slots have -/
theorem lastW_append (ws : List (Nat × Bytes)) (i j : Nat) (l b : Bytes) : ∀ k, k ≤ ws.length → lastW (ws ++ [(j, l)]) i k b = lastW ws i k b := by
  intro k
  induction k with
  | zero => intro _; rfl
  | succ k ih =>
    intro hk
    have e : (ws ++ [(j, l)]).getD k (0, []) = ws.getD k (0, []) := by rw [getD_append_one _ _ _ _ (by omega), if_neg (by omega)]
    simp only [lastW]
    rw [ih (by omega), e]
theorem put_get (d : DM) (i j : Nat) (l : Bytes) : (d.put i l).get j = if i = j then l else d.get j := by
  unfold DM.get DM.put
  simp only [List.length_append, List.length_singleton]
  rw [lastW, getD_append_one _ _ _ _ (by omega), if_pos rfl]
  simp only
  split
  · rfl
  · rw [lastW_append _ _ _ _ _ _ (Nat.le_refl _)]
theorem put_cap (d : DM) (i : Nat) (l : Bytes) : (d.put i l).cap = d.cap := rfl
theorem new_get (n j : Nat) : (DM.new n).get j = [] := by
  unfold DM.get DM.new
  simp only [List.length_nil, lastW, List.getD_eq_getElem?_getD, List.getElem?_replicate]
  split <;> rfl
theorem new_cap (n : Nat) : (DM.new n).cap = n := by simp [DM.cap, DM.new]

/-- The first slots have the shards f 0, f 1, ..; the others are empty. -/
structure Filled (d : DM) (n c : Nat) (f : Nat → Bytes) : Prop where
  cap : d.cap = n
  low : ∀ j, j < c → d.get j = f j
  high : ∀ j, c ≤ j → d.get j = []
  alive : d.lost = false
theorem Filled.new (n : Nat) (f : Nat → Bytes) : Filled (DM.new n) n 0 f := ⟨new_cap n, by omega, fun j _ => new_get n j, rfl⟩
theorem Filled.put {d : DM} {n c : Nat} {f : Nat → Bytes} (h : Filled d n c f) : Filled (d.put c (f c)) n (c + 1) f where
  cap := h.cap
  low := fun j hj => by
    rw [put_get]
    split
    · rename_i e; rw [e]
    · exact h.low j (by omega)
  high := fun j hj => by rw [put_get, if_neg (by omega)]; exact h.high j (by omega)
  alive := h.alive
theorem Filled.find_none {d : DM} {n c : Nat} {f : Nat → Bytes} (h : Filled d n c f) (S K : Int) (hf : ∀ j, j < c → hasB S K (f j) = false) : d.find S K = none := by
  unfold DM.find
  refine firstIn_none fun j _ => ?_
  by_cases hj : j < c
  · rw [h.low j hj]; exact hf j hj
  · rw [h.high j (by omega)]; exact hasB_nil _ _
theorem Filled.find_some {d : DM} {n c : Nat} {f : Nat → Bytes} (h : Filled d n c f) (S K : Int) (i : Nat) (hi : i < c) (hc : c ≤ n) (h1 : hasB S K (f i) = true) (hf : ∀ j, j < i → hasB S K (f j) = false) : d.find S K = some i := by
  unfold DM.find
  refine firstIn_some (by rw [h.cap]; omega) (by rw [h.low i hi]; exact h1) fun j hj => by rw [h.low j (by omega)]; exact hf j hj
theorem Filled.free {d : DM} {n c : Nat} {f : Nat → Bytes} (h : Filled d n c f) (hc : c < n) (hf : ∀ j, j < c → (openF (f j)).isSome = true) : d.free1 = some c := by
  unfold DM.free1
  refine firstIn_some (by rw [h.cap]; exact hc) (by rw [h.high c (Nat.le_refl _), openF_nil]; rfl) fun j hj => by
    rw [h.low j hj]
    have := hf j hj
    cases ho : openF (f j) with
    | none => rw [ho] at this; cases this
    | some r => rfl
theorem Filled.full {d : DM} {n : Nat} {f : Nat → Bytes} (h : Filled d n n f) (hf : ∀ j, j < n → (openF (f j)).isSome = true) : d.free1 = none := by
  unfold DM.free1
  refine firstIn_none fun j hj => by
    rw [h.cap] at hj
    rw [h.low j hj]
    have := hf j hj
    cases ho : openF (f j) with
    | none => rw [ho] at this; cases this
    | some r => rfl
theorem Filled.heldTo {d : DM} {n c : Nat} {f : Nat → Bytes} (h : Filled d n c f) (hf : ∀ j, j < c → (openF (f j)).isSome = true) : ∀ k, (d.heldTo k).length = min k c := by
  intro k
  induction k with
  | zero => simp [DM.heldTo]
  | succ k ih =>
    simp only [DM.heldTo]
    by_cases hk : k < c
    · rw [h.low k hk]
      have := hf k hk
      cases ho : openF (f k) with
      | none => rw [ho] at this; cases this
      | some r => simp only [List.length_append, List.length_singleton, ih]; omega
    · rw [h.high k (by omega), openF_nil]
      simp only [ih]; omega
theorem Filled.held {d : DM} {n c : Nat} {f : Nat → Bytes} (h : Filled d n c f) (hc : c ≤ n) (hf : ∀ j, j < c → (openF (f j)).isSome = true) : d.held.length = c := by
  unfold DM.held
  rw [h.heldTo hf, h.cap]; omega
end Go.Proofs.Fl

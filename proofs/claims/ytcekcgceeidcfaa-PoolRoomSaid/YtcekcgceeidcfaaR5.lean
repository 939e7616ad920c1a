import Derived.Test.YtcekcgceeidcfaaR4
namespace Go.Proofs.Fl
open Go.RowKit

def e3 : DM := ⟨[[], [], []], [], false⟩
/-- two drives, the second one as said -/
def two (d : DM) : PM := ⟨[e3, d], -1, false⟩
def Lw (fr : Bytes) : DM := ⟨[[], [], []], [(0, fr)], false⟩
def Lf (fr : Bytes) : DM := ⟨[fr, [], []], [], false⟩
def Le (fr : Bytes) : DM := ⟨[fr, [], []], [(0, [])], false⟩

theorem two_burn (d : DM) : (two d).burn = (true, two d) := by simp [PM.burn, two]
theorem two_get (d : DM) : (two d).get 1 = d := rfl
theorem two_write (d : DM) (j : Nat) (l : Bytes) : (two d).write 1 j l = (0, two (d.put j l)) := by
  unfold PM.write
  rw [two_burn, if_pos rfl]
  rfl
theorem two_use (d : DM) (hd : d.lost = false) : (two d).use 1 = 0 ∧ (two d).use 0 = 0 := by
  constructor
  · unfold PM.use
    rw [if_pos (by simp [two])]
    change (if d.lost then 8 else 0) = 0
    rw [hd]; rfl
  · unfold PM.use
    rw [if_pos (by simp [two])]
    rfl
theorem fr_has (S K : Nat) (hS : S ≤ 65535) (hK : K ≤ 255) : hasB S K (frame S K [120]) = true := by rw [hasB_frame S K [120] (by omega) (by omega) (by simp)]; simp
theorem PL1 (S K : Nat) (hS : S ≤ 65535) (hK : K ≤ 255) : (two e3).store 1 S K [120] = (0, two (Lw (frame S K [120]))) := by
  have hf : e3.find S K = none := firstIn_none fun j hj => by
    have h3 : j < 3 := hj
    have : j = 0 ∨ j = 1 ∨ j = 2 := by omega
    rcases this with rfl | rfl | rfl <;> exact hasB_nil _ _
  have hr : e3.free1 = some 0 := firstIn_some (by decide) (by show (openF []).isNone = true; rw [openF_nil]; rfl) (by omega)
  unfold PM.store
  rw [if_neg (by simp [two]; omega)]
  change (if e3.lost then _ else match (e3.find S K).orElse (fun _ => e3.free1) with | none => (3, two e3) | some j => (two e3).write 1 j (frame S K [120])) = _
  rw [hf, hr]
  exact two_write e3 0 _
theorem PL2 (S K : Nat) : (two (Lw (frame S K [120]))).lasts 1 S K = false := by
  unfold PM.lasts
  rw [if_pos (by simp [two])]
  change (Lw (frame S K [120])).lastsB S K = false
  unfold DM.lastsB
  rw [firstIn_none fun j hj => ?_]; rfl
  have h3 : j < 3 := hj
  have : j = 0 ∨ j = 1 ∨ j = 2 := by omega
  rcases this with rfl | rfl | rfl <;> exact hasB_nil _ _
theorem PL3 (d : DM) (hd : d.lost = false) : (two d).flush 0 = (0, two d) := by
  unfold PM.flush
  rw [if_neg (by simp [(two_use d hd).2]), two_burn, if_pos rfl]
  rfl
theorem PL4 (fr : Bytes) : (two (Lw fr)).flush 1 = (0, two (Lf fr)) := by
  unfold PM.flush
  rw [if_neg (by simp [(two_use (Lw fr) rfl).1]), two_burn, if_pos rfl]
  rfl
theorem PL5 (S K : Nat) (hS : S ≤ 65535) (hK : K ≤ 255) : (Lf (frame S K [120])).lastsB S K = true := by
  change (firstIn (fun j => hasB S K ((Lf (frame S K [120])).lasts.getD j [])) 3).isSome = true
  rw [firstIn_some (k := 0) (show 0 < 3 by omega) (fr_has S K hS hK) (by omega)]; rfl
theorem PL6 (S K : Nat) (hS : S ≤ 65535) (hK : K ≤ 255) : (two (Lf (frame S K [120]))).erase 1 S K = (0, two (Le (frame S K [120]))) := by
  have hf : (Lf (frame S K [120])).find S K = some 0 := firstIn_some (show 0 < 3 by omega) (fr_has S K hS hK) (by omega)
  unfold PM.erase
  rw [if_neg (by simp [(two_use (Lf (frame S K [120])) rfl).1])]
  change (match (Lf (frame S K [120])).find S K with | none => (7, two (Lf (frame S K [120]))) | some j => (two (Lf (frame S K [120]))).write 1 j []) = _
  rw [hf]
  exact two_write _ 0 _
theorem PL7 (S K : Nat) (hS : S ≤ 65535) (hK : K ≤ 255) (d : DM) (hd : d.lasts = [frame S K [120], [], []]) : d.lastsB S K = true := by
  unfold DM.lastsB DM.cap
  rw [hd, firstIn_some (k := 0) (by simp) (fr_has S K hS hK) (by omega)]; rfl
theorem rot_bit (x : Nat) : crashSel (rotN x (turnS 1)) 0 = x.testBit 7 := by
  have ht : turnS 1 = 57 := by decide
  unfold crashSel rotN
  rw [ht]
  simp only [Nat.reduceSub, Nat.testBit_or]
  have h1 : (x * 2 ^ 57 % 18446744073709551616).testBit 0 = false := by
    rw [Nat.testBit_eq_decide_div_mod_eq]; simp; omega
  have h2 : (x / 2 ^ 7).testBit 0 = x.testBit 7 := by
    rw [Nat.testBit_eq_decide_div_mod_eq, Nat.testBit_eq_decide_div_mod_eq]; simp
  rw [h1, h2]; simp
theorem PL8 (S K x : Nat) (hS : S ≤ 65535) (hK : K ≤ 255) :
    ((two (Le (frame S K [120]))).crash x).lasts 1 S K = !x.testBit 7 := by
  unfold PM.lasts
  rw [if_pos (by unfold PM.crash; simp [crashTo_len, two])]
  have hg : ((two (Le (frame S K [120]))).crash x).get 1 = (Le (frame S K [120])).keep (crashSel (rotN x (turnS 1))) := by
    change ((two (Le (frame S K [120]))).crashTo x 2).get 1 = _
    rw [crashTo_get _ _ _ _ (by simp [two]), if_pos (by omega)]; rfl
  change (((two (Le (frame S K [120]))).crash x).get 1).lastsB S K = _
  rw [hg]
  have hr := rot_bit x
  generalize crashSel (rotN x (turnS 1)) = sel at hr
  rw [← hr]
  cases hs : sel 0 with
  | false => exact PL7 S K hS hK _ (by simp [DM.keep, Le, runW, hs])
  | true =>
    have hl : ((Le (frame S K [120])).keep sel).lasts = [[], [], []] := by simp [DM.keep, Le, runW, hs]
    unfold DM.lastsB DM.cap
    rw [hl, firstIn_none fun j hj => ?_]; rfl
    have h3 : j < 3 := hj
    have : j = 0 ∨ j = 1 ∨ j = 2 := by omega
    rcases this with rfl | rfl | rfl <;> exact hasB_nil _ _
theorem two_calm (d : DM) (hd : d.loose.length ≤ 1000) : (two d).calm := by
  intro i hi
  have h2 : i < 2 := hi
  have : i = 0 ∨ i = 1 := by omega
  rcases this with rfl | rfl
  · show e3.loose.length ≤ _; simp [e3]
  · show d.loose.length ≤ _; omega
theorem two_last (d : DM) (S K : Int) : (two d).lasts 1 S K = d.lastsB S K := by
  unfold PM.lasts; rw [if_pos (by simp [two])]; rfl
end Go.Proofs.Fl

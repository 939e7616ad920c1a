import Derived.Test.YtficmalfoeaibaaXQ0
namespace Go.Proofs.Fl
open Go.RowKit

set_option maxHeartbeats 1000000 in
set_option maxRecDepth 100000 in
theorem answers08 (w : World) : Calls Try.prog 22 #[] w fun e w' => e = .returned (.bool true) ∧ Below w.heap.size w w' := by
  have kc := fun (w : World) (C : Array Value) (n c : Nat) => Lib.run_convert_bytes_const (P := Try.prog) w 28 5 C n c Try.underlying28 Try.underlying5
  go_enter Try.func22, Try.ntmps22
  go_wp2_with (fail)
  refine (L_new w w (Below.refl _ _)).mono ?_
  rintro e w1 ⟨pb, rfl, h1⟩
  go_wp2_with (fail)
  refine (L_add (m := M0) h1 2 (by decide)).mono ?_
  rintro e w2 ⟨rfl, h2⟩
  change PoolL w w2 pb A1 at h2
  go_wp2_with (fail)
  refine (L_store (h2.ext ((Below.refl _ _).alloc (Nat.le_refl _) _)) A_c1 0 5 1 (Bs.lit w2 _ _ _ [97] rfl (by decide))).mono ?_
  rintro e w3 ⟨rfl, h3⟩
  change PoolL w w3 pb A2 at h3
  rw [A_e1]
  clear h1 h2
  go_wp2_with (fail)
  refine (L_load h3 A_c2 0 5 1).mono ?_
  rintro e w4 ⟨v4, rfl, hv4, h4⟩
  rw [A_e2] at hv4 ⊢
  clear h3
  have hcv := conv_bs (P := Try.prog) hv4 28 5 9 Try.underlying28 Try.underlying5 Try.underlying9
  obtain ⟨ao4, c4, rfl⟩ := hv4.shape
  change Sem.run Try.prog (convert 28 9 (.slice ao4 1 c4)) w4 = .ok (.string (baOf [97])) w4 at hcv
  have hba : (baOf [97]).toList = [97] := by simp [baOf]
  go_wp2_with (first | (go_at_call 31; refine (L_len h4).mono ?_; rintro e w5 ⟨rfl, rfl⟩; rw [A_e3]) | (go_at_call 23; refine (L_free h4 A_c2 0).mono ?_; rintro e w5 ⟨rfl, h5⟩; rw [A_e4]))
  go_ret
  exact ⟨rfl, h5.below⟩
end Go.Proofs.Fl

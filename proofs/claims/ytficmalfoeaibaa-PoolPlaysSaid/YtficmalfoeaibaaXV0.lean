import Derived.Test.YtficmalfoeaibaaXS7toS8
namespace Go.Proofs.Fl
open Go.RowKit

theorem RowB.len {w : World} {a : Option Addr} {len cap : Nat} (h : RowB w a len cap) : len ≤ maxLen := by
  rcases h with ⟨_, rfl, _⟩ | ⟨_, _, _, h1, h2, _⟩
  · exact Nat.zero_le _
  · exact Nat.le_trans h1 h2
theorem u8_of {a : Int} (h : (Lit.int .u8 a).wf = true) : ∃ x : UInt8, a = (x.toNat : Int) := by
  obtain ⟨n, rfl, hn⟩ := wf_u8 h
  exact ⟨UInt8.ofNat n, by rw [UInt8.toNat_ofNat', Nat.mod_eq_of_lt hn]⟩
theorem whole_row {a : Option Addr} {len cap : Nat} {b : Int} {w : World} (h0 : RowB w a len cap) (h1 : (Lit.int .u8 b).wf = true) :
    Calls Try.prog 9 #[.slice a len cap, .int .u8 b] w fun e w' => e = .returned (.bool true) ∧ Below w.heap.size w w' := by
  obtain ⟨x, rfl⟩ := u8_of h1
  have hl := h0.len
  obtain ⟨d, rfl, hD⟩ := h0.dat
  exact whole_law hD hl x
end Go.Proofs.Fl

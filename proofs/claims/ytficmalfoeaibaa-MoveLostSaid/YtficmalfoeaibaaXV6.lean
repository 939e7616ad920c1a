import Derived.Test.YtficmalfoeaibaaXV0
import Derived.Test.YtficmalfoeaibaaXY2toY3
namespace Go.Proofs.Fl
open Go.RowKit

theorem lost_row {a : Option Addr} {len cap : Nat} {b : Int} {w : World} (h0 : RowB w a len cap) (h1 : (Lit.int .u8 b).wf = true) :
    Calls Try.prog 13 #[.slice a len cap, .int .u8 b] w fun e w' => e = .returned (.bool true) ∧ Below w.heap.size w w' := by
  obtain ⟨x, rfl⟩ := u8_of h1
  have hl := h0.len
  obtain ⟨d, rfl, hD⟩ := h0.dat
  exact lost_law hD hl x
end Go.Proofs.Fl

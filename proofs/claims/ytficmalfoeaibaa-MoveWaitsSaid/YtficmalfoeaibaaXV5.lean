import Derived.Test.YtficmalfoeaibaaXV0
import Derived.Test.YtficmalfoeaibaaXY0toY1
namespace Go.Proofs.Fl
open Go.RowKit

theorem waits_row {a : Option Addr} {len cap : Nat} {b c : Int} {w : World} (h0 : RowB w a len cap) (h1 : (Lit.int .u8 b).wf = true) (h2 : (Lit.int .u8 c).wf = true) :
    Calls Try.prog 14 #[.slice a len cap, .int .u8 b, .int .u8 c] w fun e w' => e = .returned (.bool true) ∧ Below w.heap.size w w' := by
  obtain ⟨x, rfl⟩ := u8_of h1
  obtain ⟨y, rfl⟩ := u8_of h2
  have hl := h0.len
  obtain ⟨d, rfl, hD⟩ := h0.dat
  exact waits_law hD hl x y
end Go.Proofs.Fl

import Derived.Test.YtficmalfoeaibaaXV0
import Derived.Test.YtficmalfoeaibaaXY9
namespace Go.Proofs.Fl
open Go.RowKit

theorem goes_row {a : Option Addr} {len cap : Nat} {b c e : Int} {w : World} (h0 : (Lit.int .u8 b).wf = true) (h1 : (Lit.int .u8 c).wf = true) (h2 : RowB w a len cap) (h3 : (Lit.int .u8 e).wf = true) :
    Calls Try.prog 16 #[.int .u8 b, .int .u8 c, .slice a len cap, .int .u8 e] w fun e w' => e = .returned (.bool true) ∧ Below w.heap.size w w' := by
  obtain ⟨x, rfl⟩ := u8_of h0
  obtain ⟨y, rfl⟩ := u8_of h1
  obtain ⟨z, rfl⟩ := u8_of h3
  have hl := h2.len
  obtain ⟨d, rfl, hD⟩ := h2.dat
  exact goes_law hD hl x y z
end Go.Proofs.Fl

import Derived.Test.YtficmalfoeaibaaXV0
import Derived.Test.YtficmalfoeaibaaXY2toY6
namespace Go.Proofs.Fl
open Go.RowKit

theorem down_row {a : Option Addr} {len cap : Nat} {b c : Int} {w : World} (h0 : RowB w a len cap) (h1 : (Lit.int .u8 b).wf = true) (h2 : (Lit.int .u64 c).wf = true) :
    Calls Try.prog 17 #[.slice a len cap, .int .u8 b, .int .u64 c] w fun e w' => e = .returned (.bool true) ∧ Below w.heap.size w w' := by
  obtain ⟨x, rfl⟩ := u8_of h1
  obtain ⟨y, rfl, hy⟩ := wf_u64 h2
  have hl := h0.len
  obtain ⟨d, rfl, hD⟩ := h0.dat
  exact down_law hD hl x y hy
end Go.Proofs.Fl

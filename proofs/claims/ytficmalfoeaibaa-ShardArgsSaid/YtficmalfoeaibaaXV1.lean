import Derived.Test.YtficmalfoeaibaaXS9
import Derived.Test.YtficmalfoeaibaaXW1
namespace Go.Proofs.Fl
open Go.RowKit

theorem args_row {a : Option Addr} {len cap : Nat} {k m at_ : Int} {w : World} (h : RowN w a len cap) :
    Calls Try.prog 11 #[.int .i64 k, .int .i64 m, .slice a len cap, .int .i64 at_] w fun e w' => e = .returned (.bool true) ∧ Below w.heap.size w w' :=
  args_law k m a len cap at_ w h.len
end Go.Proofs.Fl

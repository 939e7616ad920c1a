import Derived.Test.YtficmalfoeaibaaXV2
import Derived.Test.YtficmalfoeaibaaXS12toS13
namespace Go.Proofs.Fl
open Go.RowKit

theorem read_row {a : Option Addr} {len cap : Nat} {x1 x2 x3 x4 x5 : Int} {w : World} (h1 : (Lit.int .u8 x1).wf = true) (h2 : (Lit.int .u8 x2).wf = true) (h0 : RowB w a len cap) (h3 : (Lit.int .u8 x3).wf = true) (h4 : (Lit.int .u8 x4).wf = true) (h5 : (Lit.int .u8 x5).wf = true) :
    Calls Try.prog 10 #[.int .u8 x1, .int .u8 x2, .slice a len cap, .int .u8 x3, .int .u8 x4, .int .u8 x5] w fun e w' => e = .returned (.bool true) ∧ Below w.heap.size w w' := by
  obtain ⟨y1, rfl⟩ := u8_of h1
  obtain ⟨y2, rfl⟩ := u8_of h2
  obtain ⟨y3, rfl⟩ := u8_of h3
  obtain ⟨y4, rfl⟩ := u8_of h4
  obtain ⟨y5, rfl⟩ := u8_of h5
  have hl := h0.len
  obtain ⟨d, rfl, hD⟩ := h0.dat
  exact read_law hD hl y1 y2 y3 y4 y5
theorem changed_row {a : Option Addr} {len cap : Nat} {b : Int} {w : World} (h0 : RowB w a len cap) (h1 : (Lit.int .u8 b).wf = true) :
    Calls Try.prog 12 #[.slice a len cap, .int .u8 b] w fun e w' => e = .returned (.bool true) ∧ Below w.heap.size w w' := by
  obtain ⟨x, rfl⟩ := u8_of h1
  have hl := h0.len
  obtain ⟨d, rfl, hD⟩ := h0.dat
  exact changed_law hD hl x
end Go.Proofs.Fl

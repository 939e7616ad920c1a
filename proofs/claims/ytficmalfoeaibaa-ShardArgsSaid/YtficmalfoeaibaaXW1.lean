import Derived.Test.YtficmalfoeaibaaXB0
namespace Go.Proofs.Fl
open Go.RowKit

/-- A slice of numbers that came in. -/
def RowN (w : World) (a : Option Addr) (len cap : Nat) : Prop :=
  (a = none ∧ len = 0 ∧ cap = 0) ∨
  ∃ (x : Addr) (zs : List Int), a = some x ∧ len ≤ cap ∧ cap ≤ maxLen ∧ zs.length = cap ∧ (∀ i, i < zs.length → w.cell? (x.add i) = some (.int .i64 (zs.getD i 0))) ∧ ∀ n ∈ zs, (Lit.int .i64 n).wf = true
theorem RowN.len {w : World} {a : Option Addr} {len cap : Nat} (h : RowN w a len cap) : len ≤ maxLen := by
  rcases h with ⟨_, rfl, _⟩ | ⟨_, _, _, h1, h2, _⟩
  · exact Nat.zero_le _
  · exact Nat.le_trans h1 h2
end Go.Proofs.Fl

import Derived.Test.YtcekcgceeidcfaaH1
import Derived.WalkSpells
import Derived.Lib.LazyBuf
namespace Go.Proofs.Fl
open Go.RowKit

/-- The blocks that are new since w. -/
def Fresh (w : World) (b : Nat) : Prop := w.heap.size ≤ b

set_option maxHeartbeats 400000 in
set_option maxRecDepth 100000 in
theorem clone_any {S : Nat → Prop} {v : Value} {l : Bytes} {w : World} (hB : Bs w S v l) (hn : l.length ≤ 1000000) :
    Calls Try.prog 105 #[v] w fun e w' => ∃ v', e = .returned v' ∧ Bs w' (Fresh w) v' l ∧ Below w.heap.size w w' := by
  have hB' := hB
  obtain ⟨ao, c, rfl, hlc, hcm, hsh⟩ := hB
  rcases hsh with ⟨rfl, rfl⟩ | ⟨b, o, rfl, _, hbw, hc⟩
  · have hl0 : l = [] := List.eq_nil_of_length_eq_zero (by omega)
    subst hl0
    have hnil := fun (w : World) (a : Option Addr) (n c : Nat) => Lib.run_eql_slice_nil (P := Try.prog) w _ _ a n c 0 0 Try.underlying28
    go_enter Try.func105, Try.ntmps105
    go_wp2
    go_ret
    exact ⟨_, rfl, Bs.nil _ _, Below.refl _ _⟩
  · have HC := Lib.hid hc; clear hc
    have hnil := fun (w : World) (a : Option Addr) (n c : Nat) => Lib.run_eql_slice_nil (P := Try.prog) w _ _ a n c 0 0 Try.underlying28
    go_enter Try.func105, Try.ntmps105
    have hown0 : (w.alloc (.cells #[] tU8)).ownsRow w.heap.size tU8 1 (.slice (some ⟨w.heap.size, 0, none⟩) 0 0) 0 [] := World.ownsRow_made w #[] 0 (Nat.le_refl _) (by simp) (by simp)
    have hB1 : Bs (w.alloc (.cells #[] tU8)) S _ l := hB'.below ((Below.refl _ _).alloc (Nat.le_refl _) _)
    go_wp2_with (at_builtin; refine wpList_app_bs rfl _ _ _ rfl E28 w.heap.size hown0 hB1 rfl rfl (by omega) (by simp) ?_)
    intro v' w' hown' hg' _
    go_wp2
    go_ret
    have hbel : Below w.heap.size w w' := Grew.new ((Below.refl _ _).alloc (Nat.le_refl _) _) (by simp) hg' (fun g hg => by simp [Value.ownBlock] at hg; omega)
    exact ⟨_, rfl, Bs.of_own (by simpa using hown') _ (fun b hb _ => hb), hbel⟩
end Go.Proofs.Fl

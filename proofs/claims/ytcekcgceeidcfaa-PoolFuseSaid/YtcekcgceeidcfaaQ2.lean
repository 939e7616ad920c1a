import Derived.Test.YtcekcgceeidcfaaQ1
namespace Go.Proofs.Fl
open Go.RowKit

set_option maxHeartbeats 2000000 in
set_option maxRecDepth 100000 in
theorem none_walk (n s : Int) (v : Value) (w : World) : Calls Try.prog 6 #[.int .i64 n, .int .i64 s, v] w fun e w' => e = .returned (.bool true) ∧ Below w.heap.size w w' := by
  go_enter Try.func6, Try.ntmps6
  go_wp2_with (first
    | (go_at_call 24; refine (fuse_nil _ _).mono ?_; rintro e w1 ⟨rfl, rfl⟩)
    | (go_at_call 28; refine (crash_nil _ _).mono ?_; rintro e w1 ⟨rfl, rfl⟩)
    | (go_at_call 19; refine (add_nil _ _).mono ?_; rintro e w1 ⟨rfl, rfl⟩)
    | (go_at_call 29; refine (load_bad _ _ _ _ 1 (.inl rfl) _ (usable_nil _ _)).mono ?_; rintro e w1 ⟨rfl, rfl⟩)
    | (go_at_call 22; refine (answers08 _).mono ?_; rintro e w1 ⟨rfl, hb1⟩)
    | (go_at_call 30; refine (drive_of_nil _ _).mono ?_; rintro e w2 ⟨rfl, rfl⟩)
    | (go_at_call 31; refine (pool_len_nil _).mono ?_; rintro e w2 ⟨rfl, rfl⟩)
    | (go_at_call 20; refine (store_nil _ _ _ _ _).mono ?_; rintro e w2 ⟨rfl, rfl⟩)
    | (go_at_call 21; refine (erase_bad _ _ _ _ 1 (.inl rfl) _ (usable_nil _ _)).mono ?_; rintro e w2 ⟨rfl, rfl⟩)
    | (go_at_call 26; refine (flush_bad _ _ 1 (.inl rfl) _ (usable_nil _ _)).mono ?_; rintro e w2 ⟨rfl, rfl⟩)
    | (go_at_call 23; refine (free_nil _ _).mono ?_; rintro e w2 ⟨rfl, hb2⟩)
    | (go_at_call 25; refine (held_nil _ _).mono ?_; rintro e w3 ⟨hv, rfl, ⟨ha, hc, rfl, _⟩, hb3⟩)
    | (go_at_call 27; refine (lasts_none _ _ _ _ _ (drive_of_nil _ _)).mono ?_; rintro e w4 ⟨rfl, rfl⟩))
  go_ret
  exact ⟨rfl, (hb1.trans (hb2.mono hb1.size)).trans (hb3.mono (Nat.le_trans hb1.size hb2.size))⟩
end Go.Proofs.Fl

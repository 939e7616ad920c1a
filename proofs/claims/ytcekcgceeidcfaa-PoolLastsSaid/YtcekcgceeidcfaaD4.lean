import Derived.Test.YtcekcgceeidcfaaL1
namespace Go.Proofs.Fl
open Go.RowKit

theorem own_block1 {w : World} {base e n c g : Nat} {xs : List Value} (h : w.ownsRow base e 1 (.slice (some ⟨g, 0, none⟩) n c) n xs) (hc : c = n) : w.heap[g]? = some (.cells xs.toArray e (0, 0)) := by
  rcases h.2 with ⟨h, _⟩ | ⟨g', cap, cur, he, _, hg, hn, _, hs, ht⟩
  · cases h
  · injection he with h1 h2 h3
    injection h1 with h1
    injection h1 with h1
    subst h1; subst h3; subst hc
    rw [hg]
    have : cur.toList.take (c * 1) = cur.toList := List.take_of_length_le (by simp [hs])
    rw [this] at ht
    rw [← ht]

theorem E59 : Elem Try.prog 59 tBytes (.slice none 0 0) 1 24 := ⟨Try.underlying59, by kernel_rfl, by decide, by decide⟩

def NewP (w : World) (n : Nat) (v : Value) (w' : World) : Prop :=
  ∃ db lb, v = .pointer (some ⟨db, 0, none⟩) ∧ w.heap.size ≤ db ∧ w.heap.size ≤ lb ∧ lb ≠ db ∧ Below w.heap.size w w' ∧
    w'.heap[lb]? = some (.cells (List.replicate n (.slice none 0 0)).toArray tBytes (0, 0)) ∧
    w'.heap[db]? = some (.cells #[.slice (some ⟨lb, 0, none⟩) n n, .slice none 0 0, .bool false] tDrive (0, 0))

/-- so many slots -/
def clampN (s : Int) : Nat := if s < 0 then 0 else if 128 < s then 128 else s.toNat

set_option maxHeartbeats 1000000 in
set_option maxRecDepth 100000 in
theorem drive_new (s : Int) (w : World) : Calls Try.prog 60 #[.int .i64 s] w fun e w' => ∃ v, e = .returned v ∧ NewP w (clampN s) v w' := by
  obtain ⟨i0, hi, hz0, hz1, hz2⟩ := info_parts E59.info
  have HI := Lib.hid hi; have HZ0 := Lib.hid hz0; have HZ1 := Lib.hid hz1; have HZ2 := Lib.hid hz2
  clear hi hz0 hz1 hz2
  unfold clampN
  by_cases h1 : s < 0
  · rw [if_pos h1]
    go_enter Try.func60, Try.ntmps60
    go_wp2_with (at_make; refine wpList_make_full _ rfl _ _ _ rfl w.heap.size _ i0 _ 1 Try.underlying59 HI.out HZ0.out HZ1.out .i64 .i64 _ _ 0 rfl rfl rfl rfl (by rw [HZ2.out]; omega) (by unfold maxLen; omega) (Nat.le_refl _) ?_)
    intro w1 hown hg
    have hb := own_block1 hown rfl
    have hbel : Below w.heap.size w w1 := (Below.refl _ _).grown hg (Nat.le_refl _) (fun k h => by cases h)
    have hsz := blk_lt hb
    have ez : (madeCells #[Value.slice none 0 0] 0).toList = List.replicate 0 (.slice none 0 0) := toList_madeCells_one _ _
    rw [ez] at hb
    have HB := Lib.hid hb; have HS := Lib.hid hsz; clear hb hown hg ez hsz
    go_wp2
    go_ret
    refine ⟨_, rfl, w1.heap.size, w.heap.size, rfl, hbel.size, Nat.le_refl _, Nat.ne_of_lt HS.out, hbel.alloc hbel.size _, blk_alloc HB.out _, heap_alloc_new w1 _⟩
  · rw [if_neg h1]
    by_cases h2 : 128 < s
    · rw [if_pos h2]
      go_enter Try.func60, Try.ntmps60
      go_wp2_with (at_make; refine wpList_make_full _ rfl _ _ _ rfl w.heap.size _ i0 _ 1 Try.underlying59 HI.out HZ0.out HZ1.out .i64 .i64 _ _ 128 rfl rfl rfl rfl (by rw [HZ2.out]; omega) (by unfold maxLen; omega) (Nat.le_refl _) ?_)
      intro w1 hown hg
      have hb := own_block1 hown rfl
      have hbel : Below w.heap.size w w1 := (Below.refl _ _).grown hg (Nat.le_refl _) (fun k h => by cases h)
      have hsz := blk_lt hb
      have ez : (madeCells #[Value.slice none 0 0] 128).toList = List.replicate 128 (.slice none 0 0) := toList_madeCells_one _ _
      rw [ez] at hb
      have HB := Lib.hid hb; have HS := Lib.hid hsz; clear hb hown hg ez hsz
      go_wp2
      go_ret
      refine ⟨_, rfl, w1.heap.size, w.heap.size, rfl, hbel.size, Nat.le_refl _, Nat.ne_of_lt HS.out, hbel.alloc hbel.size _, blk_alloc HB.out _, heap_alloc_new w1 _⟩
    · rw [if_neg h2]
      obtain ⟨n, rfl⟩ : ∃ n : Nat, s = n := ⟨s.toNat, by omega⟩
      have en : ((n : Int)).toNat = n := rfl
      rw [en]
      clear en
      go_enter Try.func60, Try.ntmps60
      go_wp2_with (at_make; refine wpList_make_full _ rfl _ _ _ rfl w.heap.size _ i0 _ 1 Try.underlying59 HI.out HZ0.out HZ1.out .i64 .i64 _ _ n rfl rfl rfl rfl (by rw [HZ2.out]; omega) (by unfold maxLen; omega) (Nat.le_refl _) ?_)
      intro w1 hown hg
      have hb := own_block1 hown rfl
      have hbel : Below w.heap.size w w1 := (Below.refl _ _).grown hg (Nat.le_refl _) (fun k h => by cases h)
      have hsz := blk_lt hb
      have ez : (madeCells #[Value.slice none 0 0] n).toList = List.replicate n (.slice none 0 0) := toList_madeCells_one _ _
      rw [ez] at hb
      have HB := Lib.hid hb; have HS := Lib.hid hsz; clear hb hown hg ez hsz
      go_wp2
      go_ret
      refine ⟨_, rfl, w1.heap.size, w.heap.size, rfl, hbel.size, Nat.le_refl _, Nat.ne_of_lt HS.out, hbel.alloc hbel.size _, blk_alloc HB.out _, heap_alloc_new w1 _⟩
end Go.Proofs.Fl

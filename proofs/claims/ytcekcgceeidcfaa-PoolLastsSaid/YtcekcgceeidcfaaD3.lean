import Derived.Test.YtcekcgceeidcfaaD2
namespace Go.Proofs.Fl
open Go.RowKit

/-- What a slot has: the last of the first k writes to it. -/
def lastW (ws : List (Nat × Bytes)) (i : Nat) : Nat → Bytes → Bytes
  | 0, b => b
  | k + 1, b => if (ws.getD k (0, [])).1 = i then (ws.getD k (0, [])).2 else lastW ws i k b

set_option maxHeartbeats 800000 in
set_option maxRecDepth 100000 in
theorem read_walk (db lb ob n cap c i : Nat) (ao0 : Option Addr) (bv : Value) (b0 : Bytes) (S : Nat → Prop) (ws : List (Nat × Bytes)) (vs : Nat → Value) (w : World)
    (h0 : w.cell? ⟨db, 0, none⟩ = some (.slice (some ⟨lb, 0, none⟩) n c)) (h1 : w.cell? ⟨db, 1, none⟩ = some (.slice ao0 ws.length cap)) (h2 : w.cell? ⟨db, 2, none⟩ = some (.bool false))
    (hi : i < n) (hc : w.cell? ⟨lb, i, none⟩ = some bv) (hB : Bs w S bv b0) (hl : b0.length ≤ 1000)
    (hw : ∀ j, j < ws.length → Bs w S (vs j) (ws.getD j (0, [])).2 ∧ (ws.getD j (0, [])).2.length ≤ 1000 ∧ w.cell? ⟨ob, j * 2, none⟩ = some (.int .i64 ((ws.getD j (0, [])).1 : Int)) ∧ w.cell? ⟨ob, j * 2 + 1, none⟩ = some (vs j))
    (hkm : ws.length ≤ 1000000000) (hao : 0 < ws.length → ao0 = some ⟨ob, 0, none⟩) :
    Calls Try.prog 75 #[.pointer (some ⟨db, 0, none⟩), .int .i64 i] w fun e w' => ∃ v', e = .returned (.tuple #[v', .int .i64 0]) ∧ Bs w' (Fresh w) v' (lastW ws i ws.length b0) ∧ Below w.heap.size w w' := by
  go_enter Try.func75, Try.ntmps75
  go_wp2_with (fail)
  refine (lasts_ok db lb n c i bv b0 S w h0 h2 hi hc hB hl).mono ?_
  rintro e w1 ⟨v1, rfl, hC, hb⟩
  have g1 := (hb.cell (p := ⟨db, 1, none⟩) (World.block_lt_of_cell? w _ h1)).trans h1
  have HW := Lib.hid hw; clear hw
  go_wp2
  go_loopw [6, 24] (fun u i' wr => ∃ j : Nat, j ≤ ws.length ∧ i' = .int .i64 j ∧ Bs wr (Fresh w) u (lastW ws i j b0) ∧ Below w.heap.size w wr)
    (fun _ i' _ => ws.length - (intOf i').toNat)
  case atStart => exact ⟨0, by omega, rfl, hC, hb⟩
  case round =>
    obtain ⟨j, hj, rfl, hu, hbr⟩ := hrel
    clear hC hb g1 h0 h1 h2 hc hB
    by_cases hlt : j < ws.length
    · obtain rfl := hao (by omega)
      obtain ⟨x1, x2, x3, x4⟩ := HW.out j hlt
      have c1 := (hbr.cell (p := ⟨ob, j * 2, none⟩) (World.block_lt_of_cell? w _ x3)).trans x3
      have c2 := (hbr.cell (p := ⟨ob, j * 2 + 1, none⟩) (World.block_lt_of_cell? w _ x4)).trans x4
      have hB2 := x1.below hbr
      have e2 : lastW ws i (j + 1) b0 = if (ws.getD j (0, [])).1 = i then (ws.getD j (0, [])).2 else lastW ws i j b0 := rfl
      clear x3 x4 x1
      generalize ws.getD j (0, []) = pr at *
      generalize vs j = vj at *
      obtain ⟨sl, lj⟩ := pr
      simp only at x2 c1 c2 e2 hB2
      obtain ⟨ao, m, k, rfl⟩ : ∃ ao m k, vj = .slice ao m k := by obtain ⟨ao, c, e, _⟩ := hB2; exact ⟨ao, _, c, e⟩
      by_cases hs : sl = i
      · subst hs
        rw [if_pos rfl] at e2
        have E2 := Lib.hid e2; clear e2
        go_wp2_with (fail)
        refine (clone_any (hB2.below ((Below.refl _ _).alloc (Nat.le_refl _) _)) (by omega)).mono ?_
        rintro e w2 ⟨v2, rfl, hC2, hb2⟩
        have hbn : Below w.heap.size w w2 := (hbr.alloc hbr.size _).trans (hb2.mono (by have := hbr.size; simp; omega))
        have hC3 : Bs w2 (Fresh w) v2 (lastW ws sl (j + 1) b0) := by rw [E2.out]; exact hC2.mono fun k _ h => by have := hbr.size; simp [Fresh] at h ⊢; omega
        clear hC2 hb2 E2 hB2 c1 c2 hbr hu
        go_wp2
        go_roundw
        case rel => exact ⟨j + 1, by omega, by go_num, hC3, hbn⟩
        case measure => simp [intOf]; omega
      · rw [if_neg hs] at e2
        have hs' : ¬ (sl : Int) = (i : Int) := by omega
        have hC3 : Bs (wr.alloc (.cells #[.int .i64 (sl : Int), .slice ao m k] tWrite)) (Fresh w) u6 (lastW ws i (j + 1) b0) := by rw [e2]; exact hu.below ((Below.refl _ _).alloc (Nat.le_refl _) _)
        have hbn : Below w.heap.size w (wr.alloc (.cells #[.int .i64 (sl : Int), .slice ao m k] tWrite)) := hbr.alloc hbr.size _
        have E3 := Lib.hid hC3; have E4 := Lib.hid hbn
        clear hC3 hbn e2 hB2 hbr hu
        go_wp2
        go_roundw
        case rel => exact ⟨j + 1, by omega, by go_num, E3.out, E4.out⟩
        case measure => simp [intOf]; omega
    · obtain rfl : j = ws.length := by omega
      go_wp2
      go_ret2
      exact ⟨_, rfl, hu, hbr⟩
end Go.Proofs.Fl

import Derived.Test.YtficmalfoeaibaaXS4
import Derived.Test.YtficmalfoeaibaaXS5
import Derived.Test.YtficmalfoeaibaaXQ1
namespace Go.Proofs.Fl
open Go.RowKit

theorem Ns.below {w w' : World} {S : Nat → Prop} {v : Value} {l : List Int} (h : Ns w S v l) (hb : Below w.heap.size w w') : Ns w' S v l := Sv.kept h (Mod.of_below (fun _ => False) hb) (fun _ _ _ => id)
def abc8 : Bytes := [97, 98, 99, 100, 101, 102, 103, 104]
def pmA : PM := (laidM 1 1 abc8 1 0).1
theorem pmA_PH : PH pmA (laidL 2 (rencM 1 1 (fullM 1 abc8)) 1 0 2) := laidM_PH 1 1 (by decide) (by decide) (by decide) abc8 1 0
theorem pmA_read : readM 1 1 pmA 33 (locsM 2 2) = (abc8, 0) := by
  have h1 := laidM_read 1 1 (by decide) (by decide) (by decide) abc8 1 0 pmA_PH
  have h2 := laidM_dec 1 1 (by decide) (by decide) (by decide) abc8 1 0 (by decide +kernel)
  unfold readM
  rw [show (locsM 2 2).length = 2 by decide, h1, h2]
  decide +kernel
theorem whole_dry {m : PM} {ls : List (List Shd)} (h : PH m ls) (locs : List Int) (i n : Nat) (hi : i < locs.length) (hn : locs.getD i 0 = n) (hl : n < ls.length) (hd : Dry (m.get n)) (S : Int) : wholeM m S locs = false := by
  unfold wholeM
  rw [List.all_eq_false]
  refine ⟨i, List.mem_range.2 hi, ?_⟩
  rw [hn, h.lasts n hl, hd.lasts]; decide
theorem pmA_whole : wholeM pmA 33 (locsM 2 2) = false :=
  whole_dry pmA_PH (locsM 2 2) 0 1 (by decide) (by decide) (by decide) (laid_dry 2 _ 1 0 2 1 (by decide)) 33

set_option maxHeartbeats 1000000 in
set_option maxRecDepth 100000 in
theorem answers15 (w : World) : Calls Try.prog 44 #[] w fun e w' => e = .returned (.bool true) ∧ Below w.heap.size w w' := by
  have kc := fun (w : World) (C : Array Value) (n c : Nat) => Lib.run_convert_bytes_const (P := Try.prog) w 28 5 C n c Try.underlying28 Try.underlying5
  have KC := Lib.hid kc
  clear kc
  go_enter Try.func44, Try.ntmps44
  have kc := KC.out
  go_wp2_with (fail)
  have hba : Below w.heap.size w (w.alloc (.cells #[.int .u8 97, .int .u8 98, .int .u8 99, .int .u8 100, .int .u8 101, .int .u8 102, .int .u8 103, .int .u8 104] 5 (8, 9))) := (Below.refl _ _).alloc (Nat.le_refl _) _
  refine (laid_any 1 1 (by decide) (by decide) (by decide) (.inl ((Bs.lit w _ _ _ abc8 rfl (by decide)).mono (fun b _ h => by subst h; simp))) (by decide) 1 0).mono ?_
  rintro e w2 ⟨pb, lv, tv, K, rfl, hK, hP, hN, hT, hb⟩
  have hb2 : Below w.heap.size w w2 := hba.trans (hb.mono hba.size)
  have hPL := hP.toL hb
  change PoolL _ w2 pb pmA at hPL
  obtain ⟨lao, lc, rfl, _⟩ := hN.open_
  obtain ⟨tao, tc, rfl⟩ := hT.shape
  rw [show (1 + 1 : Nat) = 2 from rfl, locsM_length] at *
  have HPL := Lib.hid hPL; have HN := Lib.hid hN; have HB2 := Lib.hid hb2
  clear hK hP hN hT hb hPL hba
  unfold stripeV
  go_wp2_with (fail)
  obtain ⟨W, hW⟩ : ∃ W, w2.alloc (.cells #[.int .i64 33, .int .i64 0, .slice lao 2 lc] 67) = W := ⟨_, rfl⟩
  have hbW : Below w2.heap.size w2 W := by rw [← hW]; exact (Below.refl _ _).alloc (Nat.le_refl _) _
  have hcW : W.heap[w2.heap.size]? = some (.cells #[.int .i64 33, .int .i64 0, .slice lao 2 lc] 67 (0, 0)) := by rw [← hW]; exact heap_alloc_new _ _
  have HNW := Lib.hid (HN.out.below hbW)
  have HPW := Lib.hid (HPL.out.ext hbW)
  rw [hW]
  clear hW
  refine (read_any 1 1 (by decide) (by decide) (by decide) HPW.out pmA_PH.calm 33 0 _ (locsM 2 2) HNW.out (by decide)).mono ?_
  rintro e w3 ⟨r, rfl, hr, hb3⟩
  rw [pmA_read] at hr ⊢
  have hcv := conv_bs (P := Try.prog) hr 28 5 9 Try.underlying28 Try.underlying5 Try.underlying9
  obtain ⟨rao, rc, rfl⟩ := hr.shape
  change Sem.run Try.prog (convert 28 9 (.slice rao 8 rc)) w3 = .ok (.string (baOf abc8)) w3 at hcv
  have hba : (baOf abc8).toList = [97, 98, 99, 100, 101, 102, 103, 104] := by simp [baOf, abc8]
  have hc3 := (hb3.block w2.heap.size (blk_lt hcW)).trans hcW
  have c0 : w3.cell? ⟨w2.heap.size, 0, none⟩ = some (.int .i64 33) := blk_cell hc3 rfl
  have c1 : w3.cell? ⟨w2.heap.size, 1, none⟩ = some (.int .i64 0) := blk_cell hc3 rfl
  have c2 : w3.cell? ⟨w2.heap.size, 2, none⟩ = some (.slice lao 2 lc) := blk_cell hc3 rfl
  have HN3 := Lib.hid (HNW.out.below hb3)
  have HP3 := Lib.hid (HPW.out.ext hb3)
  have hl8 : abc8.length = 8 := rfl
  simp only [hl8]
  have HB3 := Lib.hid ((HB2.out.trans (hbW.mono HB2.out.size)).trans (hb3.mono (HB2.out.trans (hbW.mono HB2.out.size)).size))
  clear hr hc3 hb3 hbW hcW HPW HNW HPL HN HB2 KC
  go_wp2_with (go_at_call 47; refine (whole_any HP3.out 33 0 _ (locsM 2 2) HN3.out (by decide)).mono ?_; rintro e w4 ⟨rfl, hb4⟩; rw [pmA_whole])
  go_ret
  exact ⟨rfl, HB3.out.trans (hb4.mono HB3.out.size)⟩
end Go.Proofs.Fl

import Derived.Test.YtcekcgceeidcfaaP11
namespace Go.Proofs.Fl
open Go.RowKit

def PM.crashTo (m : PM) (x : Nat) : Nat → PM
  | 0 => m
  | k + 1 => (m.crashTo x k).setD k (((m.crashTo x k).get k).keep (crashSel (rotN x (turnS k))))
def PM.crash (m : PM) (x : Nat) : PM := { m.crashTo x m.list.length with fuse := -1, down := false }
theorem crashTo_len (m : PM) (x k : Nat) : (m.crashTo x k).list.length = m.list.length := by
  induction k with
  | zero => rfl
  | succ k ih => simp [PM.crashTo, PM.setD, ih]
theorem setD_get (m : PM) (i j : Nat) (d : DM) : (m.setD i d).get j = if i = j ∧ j < m.list.length then d else m.get j := by
  unfold PM.get PM.setD; exact getD_set _ _ _ _ _
theorem crashTo_get (m : PM) (x k j : Nat) (hk : k ≤ m.list.length) : (m.crashTo x k).get j = if j < k then (m.get j).keep (crashSel (rotN x (turnS j))) else m.get j := by
  induction k with
  | zero => simp [PM.crashTo]
  | succ k ih =>
    rw [PM.crashTo, setD_get, crashTo_len, ih (by omega)]
    by_cases e : k = j
    · subst e
      rw [if_pos ⟨rfl, by omega⟩, if_pos (by omega)]
      have := ih (by omega)
      rw [if_neg (by omega)] at this
      rw [this]
    · rw [if_neg (by omega)]
      by_cases h : j < k
      · rw [if_pos h, if_pos (by omega)]
      · rw [if_neg h, if_neg (by omega)]

theorem crash_nil (x : Value) (w : World) : Calls Try.prog 28 #[.pointer none, x] w fun e w' => e = .returned (.tuple #[]) ∧ w = w' := by
  go_enter Try.func28, Try.ntmps28
  go_wp2
  exact bodyPost_ret (results_none rfl _ _ _) rfl ⟨rfl, rfl⟩

def CrashI (w : World) (F : Nat → Prop) (pb : Nat) (lv : Value) (dbs : List Nat) (m : PM) (x k : Nat) (wr : World) : Prop :=
  ∃ F' G', (∀ b, F' b → F b ∨ w.heap.size ≤ b) ∧ PoolIn wr F' pb lv dbs G' (m.crashTo x k) ∧ Mod F w wr

set_option maxHeartbeats 1000000 in
set_option maxRecDepth 100000 in
theorem pool_crash {w : World} {F : Nat → Prop} {pb : Nat} {m : PM} (h : PoolAt w F pb m) (hk : m.calm) (x : Nat) (hx : x ≤ 18446744073709551615) :
    Calls Try.prog 28 #[.pointer (some ⟨pb, 0, none⟩), .int .u64 x] w fun e w' => e = .returned (.tuple #[]) ∧ PStep w F pb (m.crash x) w' := by
  obtain ⟨lv, dbs, G, h⟩ := h
  have hFh := Lib.hid h.here
  have hfp := h.fpb
  have hfew := h.few
  obtain ⟨ao, ln, cap, rfl⟩ := own_shape h.own
  obtain rfl := own_len h.own
  have h0 : w.cell? ⟨pb, 0, none⟩ = some _ := blk_cell h.blk rfl
  have HH := Lib.hid h
  have HK := Lib.hid hk
  have HX := Lib.hid hx
  clear h hk hx
  go_enter Try.func28, Try.ntmps28
  go_wp2
  go_loopw [13] (fun i wr => ∃ k : Nat, k ≤ m.list.length ∧ i = .int .i64 k ∧ CrashI w F pb (.slice ao m.list.length cap) dbs m x k wr)
    (fun i _ => m.list.length - (intOf i).toNat)
  case atStart => exact ⟨0, by omega, rfl, F, G, fun b hb => .inl hb, HH.out, Mod.refl _ _⟩
  case round =>
    obtain ⟨k, hkc, rfl, F', G', hF', hP, hm⟩ := hrel
    have elen := crashTo_len m x k
    by_cases hlt : k < m.list.length
    · have hi1 : k < (m.crashTo x k).list.length := by rw [elen]; exact hlt
      obtain ⟨ao', cap', ob, e1, rfl, hcell⟩ := hP.cell k hi1
      injection e1 with e1 e2 e3
      subst e1
      have hat := hP.at_ k hi1
      have hdr := drive_crash hat (rotN x (turnS k)) (rotN_le _ _ HX.out) (by
        have := HK.out k hlt
        change ((m.crashTo x k).get k).loose.length ≤ _
        rw [crashTo_get m x k k (by omega), if_neg (by omega)]; exact this)
      have hd := fun d' w' => hP.drive2 k hi1 d' (w' := w')
      have hrot := rot_any x HX.out k (by omega)
      have HD := Lib.hid hd; have HDR := Lib.hid hdr; have HM := Lib.hid hm; have HF' := Lib.hid hF'
      clear hd hdr hP hat hm hF' elen e2 e3 hi1
      go_wp2_with (go_at_call 74; refine (hrot _).mono ?_; rintro e w1 ⟨rfl, rfl⟩)
      refine HDR.out.mono ?_
      rintro e w1 ⟨rfl, hs⟩
      obtain ⟨hm2, hP2⟩ := HD.out _ _ hs
      have hI : CrashI w F pb (.slice (some ⟨ob, 0, none⟩) m.list.length cap) dbs m x (k + 1) w1 := by
        have hsz := HM.out.size
        refine ⟨_, _, fun b hb => ?_, hP2, HM.out.then hm2 fun i hi h => ?_⟩
        · rcases hb with hb | hb
          · exact HF'.out b hb
          · exact .inr (by omega)
        · rcases HF'.out i h with h | h
          · exact h
          · omega
      have HI := Lib.hid hI
      clear hs hm2 hP2 hI
      go_wp2
      go_roundw
      case rel => exact ⟨k + 1, by omega, by go_num, HI.out⟩
      case measure => simp [intOf]; omega
    · obtain rfl : k = m.list.length := by omega
      have hb0 := hP.blk
      have h1 : wr.cell? ⟨pb, 1, none⟩ = some _ := blk_cell hP.blk rfl
      have h2 : wr.cell? ⟨pb, 2, none⟩ = some _ := blk_cell hP.blk rfl
      have f1 := blk_free hP.blk 1
      have f2 := blk_free hP.blk 2
      have HB := Lib.hid hb0
      have HP := Lib.hid hP
      clear hb0 hP
      go_wp2
      go_end0
      refine ⟨rfl, ?_⟩
      have hmm : Mod (fun b => b = pb) wr ((wr.setCell ⟨pb, 1, none⟩ (.int .i64 (-1))).setCell ⟨pb, 2, none⟩ (.bool false)) :=
        ((Mod.refl (fun b => b = pb) wr).setCell (p := ⟨pb, 1, none⟩) (fun _ => rfl) _).setCell (p := ⟨pb, 2, none⟩) (fun _ => rfl) _
      have hbb := blk_set (blk_set HB.out 1 (.int .i64 (-1))) 2 (.bool false)
      have hPP := HP.out.head hmm (-1) false hbb (by decide) (by decide)
      have hsz := hm.size
      have hmF := hm.trans (hmm.mono (T := F) fun _ _ e => e ▸ hfp)
      have hE : ∀ b, F' b → Ext F w ((wr.setCell ⟨pb, 1, none⟩ (.int .i64 (-1))).setCell ⟨pb, 2, none⟩ (.bool false)) b := fun b hb => by
        rcases hF' b hb with h | h
        · exact .inl h
        · exact .inr ⟨h, hPP.here b hb⟩
      exact ⟨hmF, _, dbs, G', { hPP with
        here := Ext.here hFh.out hmF.size
        fpb := hE _ hPP.fpb
        ownF := fun g hg => ⟨hE _ (hPP.ownF g hg).1, (hPP.ownF g hg).2⟩
        sub := fun i b hb => ⟨hE _ (hPP.sub i b hb).1, (hPP.sub i b hb).2⟩ }⟩
end Go.Proofs.Fl

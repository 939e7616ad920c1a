import Derived.Test.YtcekcgceeidcfaaP4
namespace Go.Proofs.Fl
open Go.RowKit

/-- The shards in the first k slots. -/
def DM.heldTo (d : DM) : Nat → List (Nat × Nat)
  | 0 => []
  | k + 1 => match openF (d.get k) with
    | none => d.heldTo k
    | some (s, p, _) => d.heldTo k ++ [(s, p)]
def DM.held (d : DM) : List (Nat × Nat) := d.heldTo d.cap
def hcells (l : List (Nat × Nat)) : List Value := l.flatMap fun p => [.int .i64 (p.1 : Int), .int .i64 (p.2 : Int)]
theorem hcells_snoc (l : List (Nat × Nat)) (s p : Nat) : hcells (l ++ [(s, p)]) = hcells l ++ [.int .i64 (s : Int), .int .i64 (p : Int)] := by simp [hcells]
theorem heldTo_le (d : DM) (k : Nat) : (d.heldTo k).length ≤ k := by
  induction k with
  | zero => simp [DM.heldTo]
  | succ k ih =>
    simp only [DM.heldTo]
    split
    · omega
    · simp; omega

def HeldEnd (w : World) (ob : Nat) (l : List (Nat × Nat)) (w' : World) : Prop :=
  ∃ ov, w'.heap[ob]? = some (.cells #[ov] 34 (0, 0)) ∧ w'.ownsRow (ob + 1) 99 2 ov l.length (hcells l) ∧ Mod (fun b => b = ob) w w' ∧ (∀ g, ov.ownBlock = some g → w.heap.size ≤ g)

set_option maxHeartbeats 2000000 in
set_option maxRecDepth 100000 in
theorem each_held (pv : Value) (n : Int) (db : Nat) (F : Nat → Prop) (d : DM) (w : World) (ob : Nat) (h30 : Calls Try.prog 30 #[pv, .int .i64 n] w fun e w' => e = .returned (.pointer (some ⟨db, 0, none⟩)) ∧ w = w')
    (hD : DriveAt w F db d) (hk : d.loose.length ≤ 1000000000) (hlen : ∀ i, i < d.cap → (d.get i).length ≤ 64) (hcap : d.cap ≤ 128) (hob : w.heap[ob]? = some (.cells #[.slice none 0 0] 34 (0, 0))) (hF : ¬ F ob) :
    Calls Try.prog 63 #[pv, .int .i64 n, .func (.func 68) #[] #[.pointer (some ⟨ob, 0, none⟩)]] w fun e w' => e = .returned (.int .i64 (-1)) ∧ HeldEnd w ob d.held w' := by
  have HL := Lib.hid hlen; clear hlen
  have hobl := blk_lt hob
  have HOB := Lib.hid hob; clear hob
  have HF := Lib.hid hF; clear hF
  go_enter Try.func63, Try.ntmps63
  go_wp2_with (first | (go_at_call 30; refine h30.mono ?_; rintro e w1 ⟨rfl, rfl⟩) | (go_at_call 67; refine (drive_cap hD).mono ?_; rintro e w1 ⟨rfl, rfl⟩))
  go_loopw [16] (fun i wr => ∃ k : Nat, k ≤ d.cap ∧ i = .int .i64 k ∧ HeldEnd w ob (d.heldTo k) wr)
    (fun i _ => d.cap - (intOf i).toNat)
  case atStart => exact ⟨0, by omega, rfl, _, HOB.out, World.ownsRow_nil _ _ _ _, Mod.refl _ _, by simp [Value.ownBlock]⟩
  case round =>
    obtain ⟨k, hkc, rfl, hE⟩ := hrel
    by_cases hlt : k < d.cap
    · obtain ⟨ov, ho1, ho2, hm, hov⟩ := hE
      have hDr : DriveAt wr F db d := hD.kept hm fun b hb e => HF.out (e ▸ hb)
      have hl64 := HL.out k hlt
      have hle := heldTo_le d k
      have HO1 := Lib.hid ho1; have HO2 := Lib.hid ho2; have HOV := Lib.hid hov
      clear ho1 ho2 hov
      cases ho : openF (d.get k) with
      | none =>
        have e1 : d.heldTo (k + 1) = d.heldTo k := by simp [DM.heldTo, ho]
        have HO := Lib.hid ho; have HE1 := Lib.hid e1; clear ho e1
        go_wp2_with (fail)
        refine (drive_read hDr k hlt hk).mono ?_
        rintro e w1 ⟨v1, rfl, hv1, hb1⟩
        obtain ⟨ao1, c1, rfl⟩ := hv1.shape
        go_wp2_with (go_at_call 72; refine (open_none hv1 (by omega) HO.out).mono ?_; rintro e w2 ⟨rfl, hb2⟩)
        have hb3 : Below wr.heap.size wr w2 := hb1.trans (hb2.mono hb1.size)
        refine (held_fn_no _ _ _ ob w2).mono ?_
        rintro e w3 ⟨rfl, rfl⟩
        have hE : HeldEnd w ob (d.heldTo (k + 1)) w2 := by
          rw [HE1.out]
          exact ⟨ov, (hb3.block ob (blk_lt HO1.out)).trans HO1.out, own_below HO2.out hb3, hm.trans (Mod.of_below _ hb3), HOV.out⟩
        have HEE := Lib.hid hE
        clear hv1 hb1 hb2 hDr hb3 hm hE HO HE1 HO1 HO2 HOV
        go_wp2
        go_roundw
        case rel => exact ⟨k + 1, by omega, by go_num, HEE.out⟩
        case measure => simp [intOf]; omega
      | some r =>
        obtain ⟨s, p, b⟩ := r
        have e1 : d.heldTo (k + 1) = d.heldTo k ++ [(s, p)] := by simp [DM.heldTo, ho]
        have HO := Lib.hid ho; have HE1 := Lib.hid e1; clear ho e1
        go_wp2_with (fail)
        refine (drive_read hDr k hlt hk).mono ?_
        rintro e w1 ⟨v1, rfl, hv1, hb1⟩
        obtain ⟨ao1, c1, rfl⟩ := hv1.shape
        go_wp2_with (go_at_call 72; refine (open_some hv1 (by omega) HO.out).mono ?_; rintro e w2 ⟨bv, rfl, hbv, hb2⟩)
        have hb3 : Below wr.heap.size wr w2 := hb1.trans (hb2.mono hb1.size)
        refine (held_fn_yes s p bv ov ob _ _ w2 ((hb3.block ob (blk_lt HO1.out)).trans HO1.out) (own_below HO2.out hb3) (by omega)).mono ?_
        rintro e w3 ⟨rfl, ov', q1, q2, q3, q4⟩
        have hE : HeldEnd w ob (d.heldTo (k + 1)) w3 := by
          rw [HE1.out]
          have hs := hm.size
          have hs3 := hb3.size
          refine ⟨ov', q1, by rw [hcells_snoc]; simpa using q2, (hm.trans (Mod.of_below _ hb3)).then q3 (fun i hi h => ?_), fun g hg => ?_⟩
          · rcases h with h | h
            · exact h
            · have := HOV.out i h; omega
          · rcases q4 with q4 | ⟨g', q4, q5⟩
            · exact HOV.out g (q4 ▸ hg)
            · rw [q4] at hg; injection hg with hg; omega
        have HEE := Lib.hid hE
        clear hv1 hb1 hb2 hDr hb3 hm hE HO HE1 HO1 HO2 HOV q1 q2 q3 q4 hbv
        go_wp2
        go_roundw
        case rel => exact ⟨k + 1, by omega, by go_num, HEE.out⟩
        case measure => simp [intOf]; omega
    · obtain rfl : k = d.cap := by omega
      have HEE := Lib.hid hE; clear hE
      go_wp2
      go_ret
      exact ⟨rfl, HEE.out⟩
end Go.Proofs.Fl

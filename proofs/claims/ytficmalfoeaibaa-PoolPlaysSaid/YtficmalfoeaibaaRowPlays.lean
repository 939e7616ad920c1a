/- Proved here: the statement 'PoolPlaysSaid' of the law PoolPlays, for every input, without a condition. -/
import Derived.Test.YtficmalfoeaibaaRows
import Derived.Test.YtficmalfoeaibaaXV9
import Derived.WalkKit
import Derived.ProofKit
import Derived.OpenShut
import Derived.ShutString
import Derived.ChangeOld
import Derived.Below
import Derived.SizedLaws
namespace Go.Proofs.Ytficmalfoeaibaa.poolPlays
open Go.ChangeShapes Go.WideShapes Go.ChangeAt Go.RowKit

theorem own : ownKnob Try.prog.godebug = none := by kernel_rfl
theorem laidOut : laidOutB Try.prog = true := by kernel_rfl
set_option maxRecDepth 100000 in
theorem lifted (os : Os) (started : os.Started) (H : Type) (enc : TypeId × Value → H) :
    ReturnsInHanded {} Try.checked os 7 .any (Rows.poolPlaysSpec.pre6 enc Try.prog Try.f7 Rows.poolPlaysRow.domain false) (Rows.poolPlaysSpec.post enc Try.prog Try.f7 false true false false) := by
  refine returnsInHanded_of_change_sized (C := Try.checked) own started (by kernel_rfl) Try.func7
    (ChangeSpec.witness6 (enc := enc) (C := Try.checked) false ⟨#[], #[.slice none 0 0, .slice none 0 0], []⟩ 8 (by kernel_rfl) (by kernel_rfl) (by kernel_rfl) (by kernel_rfl)) ?_
  intro W base args ds gs before hval0 hW hcnd hsz0 _
  have hsz : (DataW.weightsEach Try.prog (Try.f7.params.toList ++ Rows.poolPlaysSpec.plain.varTypes Try.prog) (ds ++ gs)).all (· ≤ reachBytes) = true := hsz0
  have hval : ∀ (j : Nat) t v, Try.f7.params[j]? = some t → args[j]? = some v → Value.okWide Try.prog W .any base t v := hval0
  have hW' := hW
  obtain ⟨p, q, hA0, hV, rfl, hfz, hnd⟩ := hW
  have hA : DataW.TrodAll enc Try.prog W 0 (fun _ => true) true Try.f7.params.toList args.toList ds p := hA0
  rw [Try.params7] at hA hval hsz
  obtain ⟨v0, vs0, d0, ds0, p0, q0, hargs, rfl, rfl, h0, r0⟩ := trodAll_cons hA
  obtain ⟨v1, vs1, d1, ds1, p1, q1, rfl, rfl, rfl, h1, r1⟩ := trodAll_cons r0
  obtain ⟨rfl, rfl, rfl⟩ := trodAll_nil r1
  obtain rfl : args = #[v0, v1] := by cases args; simp_all
  obtain ⟨rfl, rfl⟩ := trodVars_none hV
  obtain ⟨a0, len0, cap0, rfl⟩ := okWide_slice Try.underlying28 (hval 0 28 v0 rfl rfl)
  have k0 := h0
  have lt0 : ∀ x ∈ p0, x.block < W.heap.size := by obtain ⟨m, hm⟩ := k0; exact DataW.trod_lt m _ _ _ hm
  have w0 : Fl.RowB W a0 len0 cap0 := by
    obtain ⟨fuel, hf⟩ := h0
    rcases open_ints Try.underlying28 Try.underlying5 (by kernel_rfl) hf with ⟨hcs, _⟩ | ⟨x, l, c, zs, hcs, _, hl, hm, hz, _, hcell, hwz⟩
    · simp [Value.cells] at hcs
      obtain ⟨rfl, rfl, rfl⟩ := hcs
      exact .inl ⟨rfl, rfl, rfl⟩
    · simp [Value.cells] at hcs
      obtain ⟨rfl, rfl, rfl⟩ := hcs
      exact .inr ⟨_, zs, rfl, hl, hm, by simpa using hz, hcell, hwz⟩
  obtain ⟨a1, len1, cap1, rfl⟩ := okWide_slice Try.underlying49 (hval 1 49 v1 rfl rfl)
  have k1 := h1
  have lt1 : ∀ x ∈ p1, x.block < W.heap.size := by obtain ⟨m, hm⟩ := k1; exact DataW.trod_lt m _ _ _ hm
  have w1 : Fr.RowA W a1 len1 cap1 := by
    obtain ⟨fuel, hf⟩ := h1
    rcases Fr.open_slice_fields Try.underlying49 Try.underlying57 (by kernel_rfl) (by kernel_rfl) hf with ⟨hcs, _⟩ | ⟨x, l, c, m, D, Pl, hcs, _, hl, hm, hmm, _, hi⟩
    · simp [Value.cells] at hcs
      obtain ⟨rfl, rfl, rfl⟩ := hcs
      exact .inl ⟨rfl, rfl, rfl⟩
    · simp [Value.cells] at hcs
      obtain ⟨rfl, rfl, rfl⟩ := hcs
      refine .inr ⟨_, rfl, hl, hm, fun i hil => ?_⟩
      obtain ⟨ys, n, _, _, _, hfl⟩ := hi i (by rw [hmm]; simp; omega)
      obtain ⟨v0, y0, e0, _, t0⟩ := hfl 0 _ rfl
      obtain ⟨v1, y1, e1, _, t1⟩ := hfl 1 _ rfl
      obtain ⟨v2, y2, e2, _, t2⟩ := hfl 2 _ rfl
      obtain ⟨v3, y3, e3, _, t3⟩ := hfl 3 _ rfl
      obtain ⟨v4, y4, e4, _, t4⟩ := hfl 4 _ rfl
      obtain ⟨v5, y5, e5, _, t5⟩ := hfl 5 _ rfl
      obtain ⟨n0, z0, _, wf0⟩ := DataW.trod_int Try.underlying3 t0
      injection z0 with z0 _
      subst z0
      obtain ⟨n1, z1, _, wf1⟩ := DataW.trod_int Try.underlying3 t1
      injection z1 with z1 _
      subst z1
      obtain ⟨n2, z2, _, wf2⟩ := DataW.trod_int Try.underlying3 t2
      injection z2 with z2 _
      subst z2
      obtain ⟨n3, z3, _, wf3⟩ := DataW.trod_int Try.underlying3 t3
      injection z3 with z3 _
      subst z3
      obtain ⟨n5, z5, _, wf5⟩ := DataW.trod_int Try.underlying38 t5
      injection z5 with z5 _
      subst z5
      have hb : ∃ ba bl bc, v4 = .slice ba bl bc ∧ Fl.RowB W ba bl bc := by
        rcases open_ints Try.underlying28 Try.underlying5 (by kernel_rfl) t4 with ⟨z, _⟩ | ⟨x4, l4, c4, zs, z, _, hl4, hm4, hz, _, hcell, hwz⟩
        · injection z with z _
          exact ⟨_, _, _, z, .inl ⟨rfl, rfl, rfl⟩⟩
        · injection z with z _
          exact ⟨_, _, _, z, .inr ⟨_, zs, rfl, hl4, hm4, by simpa using hz, hcell, hwz⟩⟩
      obtain ⟨ba, bl, bc, z4, hB⟩ := hb
      subst z4
      exact ⟨n0, n1, n2, n3, n5, ba, bl, bc, e0, e1, e2, e3, e4, e5, hB, wf3, wf5⟩
  clear hA0 hval0 hsz0 hsz
  refine (Fr.plays_row w0 w1).mono fun e W' ⟨he, bel⟩ => ?_
  subst he
  exact ⟨_, rfl, _, _, _, [], _, [], hW', trodAll_mk1 (shut_bool Try.underlying4 _), (trodAll_cons_mk (Below.trod laidOut (by kernel_rfl) (of_decide_eq_true (by kernel_rfl)) k0 bel lt0) (trodAll_cons_mk (Below.trod laidOut (by kernel_rfl) (of_decide_eq_true (by kernel_rfl)) k1 bel lt1) trodAll_mk0)), rfl, bel.frame _, fun h => by cases h⟩
theorem over : Rows.poolPlaysRow.holds Try.pinned (OpenSpec.ofChange Rows.poolPlaysSpec) :=
  OpenClaim.holds_of_wide 7 Try.f7 rfl rfl rfl rfl rfl rfl rfl ⟨rfl, rfl, rfl, rfl, rfl⟩ rfl rfl rfl rfl rfl (by kernel_rfl) Try.func7 (by kernel_rfl)
    (of_decide_eq_true (by kernel_rfl)) (by unfold Func.isWrapper; first | (rw [if_pos (by decide +kernel)]; kernel_rfl) | (rw [if_neg (by decide +kernel)]; exact ⟨rfl, rfl⟩))
    (fun os started H enc _ => lifted os started H enc)
theorem proved : Rows.PoolPlaysSaid := over
#print axioms proved
end Go.Proofs.Ytficmalfoeaibaa.poolPlays
namespace Go.Proofs.Ytficmalfoeaibaa
/-- The statement. -/
theorem poolPlays_holds : Rows.PoolPlaysSaid := poolPlays.proved
end Go.Proofs.Ytficmalfoeaibaa

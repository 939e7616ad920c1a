import Derived.Test.YtficmalfoeaibaaXV0
import Derived.Test.YtficmalfoeaibaaXA17toA20
import Derived.Deep.Slices
import Derived.Deep.Fields
import Derived.ChangeSame
namespace Go.Proofs.Fr
open Go.RowKit Go.Proofs.Fl

/-- A slice of acts that came in. -/
def RowA (w : World) (a : Option Addr) (len cap : Nat) : Prop :=
  (a = none ∧ len = 0 ∧ cap = 0) ∨
  ∃ x : Addr, a = some x ∧ len ≤ cap ∧ cap ≤ maxLen ∧ ∀ i, i < len → ∃ (n0 n1 n2 n3 kp : Int) (ba : Option Addr) (bl bc : Nat), w.cell? (x.add (i * 6 + 0)) = some (.int .i64 n0) ∧ w.cell? (x.add (i * 6 + 1)) = some (.int .i64 n1) ∧ w.cell? (x.add (i * 6 + 2)) = some (.int .i64 n2) ∧
    w.cell? (x.add (i * 6 + 3)) = some (.int .i64 n3) ∧ w.cell? (x.add (i * 6 + 4)) = some (.slice ba bl bc) ∧ w.cell? (x.add (i * 6 + 5)) = some (.int .u64 kp) ∧ RowB w ba bl bc ∧ (Lit.int .i64 n3).wf = true ∧ (Lit.int .u64 kp).wf = true
theorem RowA.acts {w : World} {a : Option Addr} {len cap : Nat} (h : RowA w a len cap) : ∃ l : List ActM, l.length = len ∧ ActsAt w (.slice a len cap) l ∧ len ≤ maxLen := by
  rcases h with ⟨rfl, rfl, rfl⟩ | ⟨x, rfl, hl, hm, hc⟩
  · exact ⟨[], rfl, ⟨none, 0, rfl, fun h => absurd h (Nat.not_lt_zero _)⟩, Nat.zero_le _⟩
  · by_cases h0 : len = 0
    · subst h0
      exact ⟨[], rfl, ⟨some x, cap, rfl, fun h => absurd h (Nat.not_lt_zero _)⟩, Nat.zero_le _⟩
    · have hsp : x.spot = none ∧ x.block < w.heap.size := by
        obtain ⟨n0, _, _, _, _, _, _, _, c, _⟩ := hc 0 (by omega)
        have e : x.add (0 * 6 + 0) = x := by simp [Addr.add]
        rw [e] at c
        unfold World.cell? at c
        cases hb : w.heap[x.block]? with
        | none => rw [hb] at c; cases c
        | some o =>
          refine ⟨?_, (Array.getElem?_eq_some_iff.1 hb).1⟩
          rw [hb] at c
          cases o with
          | cells cs t fr =>
            simp only at c
            by_cases hs : x.spot.isSome = true
            · rw [if_pos hs] at c; cases c
            · simpa using hs
          | _ => cases c
      obtain ⟨xb, xo, xs⟩ := x
      obtain ⟨rfl, hlt⟩ := hsp
      have ea : ∀ j, (⟨xb, xo, none⟩ : Addr).add j = ⟨xb, xo + j, none⟩ := fun j => by unfold Addr.add; split <;> simp_all
      have hq : ∀ i, i < len → ∃ am : ActM, ∃ ba bc, w.cell? ⟨xb, xo + i * 6, none⟩ = some (.int .i64 am.what) ∧ w.cell? ⟨xb, xo + i * 6 + 1, none⟩ = some (.int .i64 am.drive) ∧ w.cell? ⟨xb, xo + i * 6 + 2, none⟩ = some (.int .i64 am.stripe) ∧
          w.cell? ⟨xb, xo + i * 6 + 3, none⟩ = some (.int .i64 am.pos) ∧ w.cell? ⟨xb, xo + i * 6 + 4, none⟩ = some (.slice ba am.b.length bc) ∧ w.cell? ⟨xb, xo + i * 6 + 5, none⟩ = some (.int .u64 am.keep) ∧
          DatB w (fun b => b < w.heap.size) (.slice ba am.b.length bc) am.b ∧ am.b.length ≤ maxLen ∧ am.keep ≤ 18446744073709551615 ∧ am.pos ≤ 9223372036854775807 := fun i hi => by
        obtain ⟨n0, n1, n2, n3, kp, ba, bl, bc, c0, c1, c2, c3, c4, c5, hB, w3, w5⟩ := hc i hi
        rw [ea] at c0 c1 c2 c3 c4 c5
        obtain ⟨k, rfl, hk⟩ := wf_u64 w5
        have hbl := hB.len
        obtain ⟨d, rfl, hD⟩ := hB.dat
        have h3 : n3 ≤ 9223372036854775807 := by
          simp [Lit.wf, IntKind.min, IntKind.max, IntKind.bits, IntKind.signed] at w3
          omega
        exact ⟨⟨n0, n1, n2, n3, d, k⟩, ba, bc, c0, c1, c2, c3, c4, c5, hD, hbl, hk, h3⟩
      obtain ⟨f, hf⟩ := Go.Deep.choose_lt hq
      refine ⟨(List.range len).map f, by simp, ⟨some ⟨xb, xo, none⟩, cap, by simp, fun _ => ⟨xb, xo, rfl, hlt, fun j hj => ?_⟩⟩, by omega⟩
      have hj' : j < len := by simpa using hj
      have e : ((List.range len).map f).getD j default = f j := by simp [List.getD_eq_getElem?_getD, hj']
      rw [e]
      exact hf j hj'
theorem plays_row {a0 a1 : Option Addr} {len0 cap0 len1 cap1 : Nat} {w : World} (h0 : RowB w a0 len0 cap0) (h1 : RowA w a1 len1 cap1) :
    Calls Try.prog 7 #[.slice a0 len0 cap0, .slice a1 len1 cap1] w fun e w' => e = .returned (.bool true) ∧ Below w.heap.size w w' := by
  have hl := h0.len
  obtain ⟨d, rfl, hD⟩ := h0.dat
  obtain ⟨acts, rfl, hA, hal⟩ := h1.acts
  exact plays_law hD hl hA hal
end Go.Proofs.Fr
namespace Go.Proofs.Fr
open Go.ChangeShapes Go.WideShapes Go.Deep
section
variable {H : Type} {enc : TypeId × Value → H} {P : Program} {w : World} {base : Nat} {spare : Nat → Bool} {held : Bool}
theorem open_slice_fields {t e : TypeId} {fs : Array Field} {fuel : Nat} {cs : List Value} {x : DataW H × List MemPlace} (ht : P.underlying t = some (.slice e)) (he : P.underlying e = some (.struct fs))
    (hone : oneCellFields P fs = true) (hC : P.cellsOf e = fs.size) (h : DataW.trod enc P w base spare held fuel t cs = some x) :
    (cs = [.slice none 0 0] ∧ x = (.nil, [])) ∨
    ∃ (a : Addr) (len cap m : Nat) (D : Nat → DataW H) (Pl : Nat → List MemPlace), cs = [.slice (some a) len cap] ∧ base ≤ a.block ∧ len ≤ cap ∧ cap ≤ maxLen ∧ m = (if spare a.block then cap else len) ∧
      x = (.slice ((List.range len).map D) ((List.range (m - len)).map fun j => D (len + j)), MemPlace.row a (m * fs.size) ++ (List.range m).flatMap Pl) ∧
      ∀ i, i < m → ∃ (ys : List (DataW H × List MemPlace)) (n : Nat), D i = .agg (ys.map (·.1)) ∧ Pl i = ys.flatMap (·.2) ∧ ys.length = fs.size ∧
        ∀ (j : Nat) (f : Field), fs[j]? = some f → ∃ (v : Value) (y : DataW H × List MemPlace), w.cell? (a.add (i * fs.size + j)) = some v ∧ ys[j]? = some y ∧ DataW.trod enc P w base spare held n f.type [v] = some y := by
  rcases open_slice ht h with h0 | ⟨a, len, cap, m, n, D, Pl, hcs, hb, hl, hm, hmm, hx, hi⟩
  · exact .inl h0
  · refine .inr ⟨a, len, cap, m, D, Pl, hcs, hb, hl, hm, hmm, by rw [hC] at hx; exact hx, fun i him => ?_⟩
    obtain ⟨cs', hc, ht'⟩ := hi i him
    rw [hC] at hc
    obtain ⟨ys, n', hn', hy, hlen, hyl, hf⟩ := DataW.trod_struct he ht'
    obtain ⟨_, hcl, hat⟩ := World.cells?_some hc
    simp only [Prod.mk.injEq] at hy
    refine ⟨ys, n', hy.1, hy.2, hyl, fun j f hj => ?_⟩
    obtain ⟨ho, hk⟩ := hone_of hone j f hj
    have hjl : j < fs.size := (Array.getElem?_eq_some_iff.1 hj).1
    have hcell := hat j hjl
    have hv : cs'[j]? = some (cs'[j]'(by omega)) := List.getElem?_eq_getElem (by omega)
    have h1 := hf j f hj
    rw [ho, hk] at h1
    have hone' : (cs'.drop j).take 1 = [cs'[j]'(by omega)] := by
      rw [List.drop_eq_getElem_cons (by omega)]
      rfl
    rw [hone'] at h1
    have hys : ys[j]? = some (ys[j]'(by omega)) := List.getElem?_eq_getElem (by omega)
    refine ⟨_, _, ?_, hys, h1.trans hys⟩
    rw [← Go.Deep.add_add, hcell, hv]
end
end Go.Proofs.Fr

import Derived.Below
import Derived.WalkKit
import Derived.WalkLawsBesides
import Derived.Lib.Hide
namespace Go.Proofs.Fl
open Go.RowKit

abbrev Bytes := List UInt8
def u8v (x : UInt8) : Value := .int .u8 (x.toNat : Int)
def u8s (l : Bytes) : List Value := l.map u8v
@[simp] theorem u8s_length (l : Bytes) : (u8s l).length = l.length := by simp [u8s]

/-- v is a slice that reads the bytes l; where it is not empty its block is one of S. -/
def Bs (w : World) (S : Nat → Prop) (v : Value) (l : Bytes) : Prop :=
  ∃ ao c, v = .slice ao l.length c ∧ l.length ≤ c ∧ c ≤ maxLen ∧
    ((ao = none ∧ c = 0) ∨ ∃ b o, ao = some ⟨b, o, none⟩ ∧ S b ∧ b < w.heap.size ∧ ∀ j, j < l.length → w.cell? ⟨b, o + j, none⟩ = some (.int .u8 ((l.getD j 0).toNat : Int)))

/-- Outside S all that was there is as it was. -/
structure Mod (S : Nat → Prop) (w w' : World) : Prop where
  os : w'.os = w.os
  tape : w'.tape = w.tape
  output : w'.output = w.output
  size : w.heap.size ≤ w'.heap.size
  block : ∀ k, k < w.heap.size → ¬ S k → w'.heap[k]? = w.heap[k]?

theorem Mod.refl (S : Nat → Prop) (w : World) : Mod S w w := ⟨rfl, rfl, rfl, Nat.le_refl _, fun _ _ _ => rfl⟩
theorem Mod.trans {S : Nat → Prop} {a b c : World} (h : Mod S a b) (k : Mod S b c) : Mod S a c :=
  ⟨k.os.trans h.os, k.tape.trans h.tape, k.output.trans h.output, Nat.le_trans h.size k.size, fun i hi hs => (k.block i (Nat.lt_of_lt_of_le hi h.size) hs).trans (h.block i hi hs)⟩
theorem Mod.mono {S T : Nat → Prop} {a b : World} (h : Mod S a b) (hst : ∀ k, k < a.heap.size → S k → T k) : Mod T a b :=
  ⟨h.os, h.tape, h.output, h.size, fun i hi hs => h.block i hi fun x => hs (hst i hi x)⟩
/-- The second step may also write what is new since the first. -/
theorem Mod.then {S T : Nat → Prop} {a b c : World} (h : Mod S a b) (k : Mod T b c) (hst : ∀ i, i < a.heap.size → T i → S i) : Mod S a c :=
  ⟨k.os.trans h.os, k.tape.trans h.tape, k.output.trans h.output, Nat.le_trans h.size k.size,
    fun i hi hs => (k.block i (Nat.lt_of_lt_of_le hi h.size) fun x => hs (hst i hi x)).trans (h.block i hi hs)⟩
theorem Mod.of_below {w w' : World} (S : Nat → Prop) (h : Below w.heap.size w w') : Mod S w w' := ⟨h.os, h.tape, h.output, h.size, fun k hk _ => h.block k hk⟩
theorem Mod.below {w w' : World} {S : Nat → Prop} (h : Mod S w w') (hS : ∀ k, k < w.heap.size → ¬ S k) : Below w.heap.size w w' := ⟨h.os, h.tape, h.output, h.size, fun k hk => h.block k hk (hS k hk)⟩
theorem Mod.cell {S : Nat → Prop} {w w' : World} (h : Mod S w w') {p : Addr} (hp : p.block < w.heap.size) (hs : ¬ S p.block) : w'.cell? p = w.cell? p := World.cell?_of_block (w := w) (h.block p.block hp hs)
theorem Mod.frozen {S : Nat → Prop} {w w' : World} (h : Mod S w w') {p : Addr} (hp : p.block < w.heap.size) (hs : ¬ S p.block) : w'.frozen? p = w.frozen? p := World.frozen?_of_block (w := w) (h.block p.block hp hs)
theorem Mod.alloc {S : Nat → Prop} {a w : World} (h : Mod S a w) (o : Obj) : Mod S a (w.alloc o) :=
  h.trans (Mod.of_below S ((Below.refl _ _).alloc (Nat.le_refl _) o))
theorem Mod.drew {S : Nat → Prop} {a w : World} (h : Mod S a w) : Mod S a w.drew := ⟨h.os, h.tape, h.output, h.size, h.block⟩
theorem Mod.setCell {S : Nat → Prop} {a w : World} (h : Mod S a w) {p : Addr} (hp : p.block < a.heap.size → S p.block) (u : Value) : Mod S a (w.setCell p u) :=
  ⟨h.os, h.tape, h.output, by have := h.size; simpa using this, fun k hk hs => by
    rw [Below.heap_setCell _ _ _ _ (fun e => hs (by rw [e]; exact hp (by omega)))]; exact h.block k hk hs⟩
theorem Mod.grown {S : Nat → Prop} {a w w' : World} {row : Option Nat} (h : Mod S a w) (hg : w.grownBy w' row) (hr : ∀ k, row = some k → k < a.heap.size → S k) : Mod S a w' :=
  ⟨hg.os.trans h.os, hg.tape.trans h.tape, hg.output.trans h.output, Nat.le_trans h.size hg.size, fun k hk hs =>
    (hg.block k (Nat.lt_of_lt_of_le hk h.size) (fun e => hs (hr k e.symm hk))).trans (h.block k hk hs)⟩

theorem Bs.lt {w : World} {S : Nat → Prop} {v : Value} {l : Bytes} (h : Bs w S v l) : l.length ≤ maxLen := by
  obtain ⟨ao, c, _, h1, h2, _⟩ := h; omega
theorem Bs.nil (w : World) (S : Nat → Prop) : Bs w S (.slice none 0 0) [] := ⟨none, 0, rfl, by simp, by simp [maxLen], .inl ⟨rfl, rfl⟩⟩
theorem Bs.mono {w : World} {S T : Nat → Prop} {v : Value} {l : Bytes} (h : Bs w S v l) (hst : ∀ k, k < w.heap.size → S k → T k) : Bs w T v l := by
  obtain ⟨ao, c, e, h1, h2, h3⟩ := h
  refine ⟨ao, c, e, h1, h2, ?_⟩
  rcases h3 with h3 | ⟨b, o, e1, hs, hb, hc⟩
  · exact .inl h3
  · exact .inr ⟨b, o, e1, hst b hb hs, hb, hc⟩
/-- What was read reads on where its block was not written. -/
theorem Bs.kept {w w' : World} {S T : Nat → Prop} {v : Value} {l : Bytes} (h : Bs w S v l) (hm : Mod T w w') (hst : ∀ k, k < w.heap.size → S k → ¬ T k) : Bs w' S v l := by
  obtain ⟨ao, c, e, h1, h2, h3⟩ := h
  refine ⟨ao, c, e, h1, h2, ?_⟩
  rcases h3 with h3 | ⟨b, o, e1, hs, hb, hc⟩
  · exact .inl h3
  · exact .inr ⟨b, o, e1, hs, Nat.lt_of_lt_of_le hb hm.size, fun j hj => (hm.cell hb (hst b hb hs)).trans (hc j hj)⟩
theorem Bs.below {w w' : World} {S : Nat → Prop} {v : Value} {l : Bytes} (h : Bs w S v l) (hb : Below w.heap.size w w') : Bs w' S v l :=
  h.kept (Mod.of_below (fun _ => False) hb) (fun _ _ _ => id)

/-- An owned row of bytes reads as such. -/
theorem Bs.of_own {w : World} {base : Nat} {v : Value} {n : Nat} {l : Bytes} {e : TypeId} (h : w.ownsRow base e 1 v n (u8s l)) (S : Nat → Prop) (hS : ∀ b, base ≤ b → b < w.heap.size → S b) : Bs w S v l := by
  have hl : l.length = n := by have := h.1; simpa using this
  subst hl
  rcases h.2 with ⟨rfl, h0⟩ | ⟨g, cap, cur, rfl, hbg, hg, hnc, hcm, hcs, htake⟩
  · exact ⟨none, 0, by rw [h0], by omega, by simp [maxLen], .inl ⟨rfl, rfl⟩⟩
  · have hlt := (Array.getElem?_eq_some_iff.1 hg).1
    refine ⟨_, cap, rfl, hnc, hcm, .inr ⟨g, 0, rfl, hS g hbg hlt, hlt, fun j hj => ?_⟩⟩
    have := h.cells (g := g) rfl j (.int .u8 ((l.getD j 0).toNat : Int)) (by simp [u8s, u8v, List.getElem?_eq_getElem hj, List.getD_eq_getElem?_getD])
    have ha : (⟨g, 0, none⟩ : Addr).add j = ⟨g, 0 + j, none⟩ := by unfold Addr.add; split <;> simp_all
    rwa [ha] at this

/-- The cells that a slice of bytes reads, as the laws on append ask for them. -/
theorem Bs.news {w : World} {b o : Nat} {l : Bytes} (hc : ∀ j, j < l.length → w.cell? ⟨b, o + j, none⟩ = some (.int .u8 ((l.getD j 0).toNat : Int))) :
    ∀ j u, (u8s l)[j]? = some u → w.cell? ((⟨b, o, none⟩ : Addr).add j) = some u := by
  intro j u hu
  have hj : j < l.length := by have := (List.getElem?_eq_some_iff.1 hu).1; simpa using this
  have ha : (⟨b, o, none⟩ : Addr).add j = ⟨b, o + j, none⟩ := by unfold Addr.add; split <;> simp_all
  rw [ha, hc j hj, ← hu]
  simp [u8s, u8v, List.getElem?_eq_getElem hj, List.getD_eq_getElem?_getD]
theorem u8s_one (l : Bytes) : ∀ u ∈ u8s l, u.oneCell' = true := by
  intro u hu
  obtain ⟨_, _, rfl⟩ := List.mem_map.1 hu
  rfl
theorem u8s_append (a b : Bytes) : u8s (a ++ b) = u8s a ++ u8s b := by simp [u8s]
end Go.Proofs.Fl

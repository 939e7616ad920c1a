import Derived.Test.YtficmalfoeaibaaXP5toP12
import Derived.Lib.SlBytesConst
namespace Go.Proofs.Fl
open Go.RowKit

theorem below_mod {B : Nat} {F : Nat → Prop} {w w1 w2 : World} (h : Below B w w1) (hB : B ≤ w1.heap.size) (hm : Mod F w1 w2) (hF : ∀ b, F b → B ≤ b) : Below B w w2 :=
  ⟨hm.os.trans h.os, hm.tape.trans h.tape, hm.output.trans h.output, Nat.le_trans h.size hm.size, fun k hk => (hm.block k (by omega) (fun hk' => by have := hF k hk'; omega)).trans (h.block k hk)⟩

/-- A pool that was made since w0; nothing of w0 has turned. -/
structure PoolL (w0 w : World) (pb : Nat) (m : PM) : Prop where
  below : Below w0.heap.size w0 w
  is : ∃ F, (∀ b, F b → w0.heap.size ≤ b) ∧ PoolAt w F pb m

theorem PoolL.of_step {w0 w w' : World} {F : Nat → Prop} {pb : Nat} {m' : PM} (hb : Below w0.heap.size w0 w) (hF : ∀ b, F b → w0.heap.size ≤ b) (hs : PStep w F pb m' w') : PoolL w0 w' pb m' :=
  ⟨below_mod hb hb.size hs.mod hF, Ext F w w', fun b hb' => by
    rcases hb' with h | h
    · exact hF b h
    · exact Nat.le_trans hb.size h.1, hs.at_⟩
theorem PoolL.ext {w0 w w' : World} {pb : Nat} {m : PM} (h : PoolL w0 w pb m) (hb : Below w.heap.size w w') : PoolL w0 w' pb m := by
  obtain ⟨h1, F, h2, h3⟩ := h
  exact ⟨h1.trans (hb.mono h1.size), F, h2, h3.below hb⟩
theorem L_new (w0 w : World) (hb : Below w0.heap.size w0 w) : Calls Try.prog 18 #[] w fun e w' => ∃ pb, e = .returned (.pointer (some ⟨pb, 0, none⟩)) ∧ PoolL w0 w' pb ⟨[], -1, false⟩ := by
  refine (pool_new w).mono ?_
  rintro e w' ⟨pb, rfl, h1, h2, h3⟩
  exact ⟨pb, rfl, hb.trans (h2.mono hb.size), _, fun b h => by
    rcases h with h | h
    · exact h.elim
    · exact Nat.le_trans hb.size h.1, h3⟩
theorem L_add {w0 w : World} {pb : Nat} {m : PM} (h : PoolL w0 w pb m) (s : Int) (hk : m.list.length < 12) :
    Calls Try.prog 19 #[.pointer (some ⟨pb, 0, none⟩), .int .i64 s] w fun e w' => e = .returned (.tuple #[.int .i64 m.list.length, .int .i64 0]) ∧ PoolL w0 w' pb (m.add s) := by
  obtain ⟨h1, F, h2, h3⟩ := h
  refine (pool_add h3 s hk).mono ?_
  rintro e w' ⟨rfl, hs⟩
  exact ⟨rfl, PoolL.of_step h1 h2 hs⟩
theorem L_store {w0 w : World} {T : Nat → Prop} {pb : Nat} {m : PM} (h : PoolL w0 w pb m) (hk : m.calm) (n S K : Int) {v : Value} {b : Bytes} (hB : Bs w T v b) :
    Calls Try.prog 20 #[.pointer (some ⟨pb, 0, none⟩), .int .i64 n, .int .i64 S, .int .i64 K, v] w fun e w' => e = .returned (.int .i64 (m.store n S K b).1) ∧ PoolL w0 w' pb (m.store n S K b).2 := by
  obtain ⟨h1, F, h2, h3⟩ := h
  refine (pool_store h3 hk n S K hB).mono ?_
  rintro e w' ⟨rfl, hs⟩
  exact ⟨rfl, PoolL.of_step h1 h2 hs⟩
theorem L_erase {w0 w : World} {pb : Nat} {m : PM} (h : PoolL w0 w pb m) (hk : m.calm) (n S K : Int) :
    Calls Try.prog 21 #[.pointer (some ⟨pb, 0, none⟩), .int .i64 n, .int .i64 S, .int .i64 K] w fun e w' => e = .returned (.int .i64 (m.erase n S K).1) ∧ PoolL w0 w' pb (m.erase n S K).2 := by
  obtain ⟨h1, F, h2, h3⟩ := h
  refine (pool_erase h3 hk n S K).mono ?_
  rintro e w' ⟨rfl, hs⟩
  exact ⟨rfl, PoolL.of_step h1 h2 hs⟩
theorem L_flush {w0 w : World} {pb : Nat} {m : PM} (h : PoolL w0 w pb m) (hk : m.calm) (n : Int) :
    Calls Try.prog 26 #[.pointer (some ⟨pb, 0, none⟩), .int .i64 n] w fun e w' => e = .returned (.int .i64 (m.flush n).1) ∧ PoolL w0 w' pb (m.flush n).2 := by
  obtain ⟨h1, F, h2, h3⟩ := h
  refine (pool_flush h3 hk n).mono ?_
  rintro e w' ⟨rfl, hs⟩
  exact ⟨rfl, PoolL.of_step h1 h2 hs⟩
theorem L_fuse {w0 w : World} {pb : Nat} {m : PM} (h : PoolL w0 w pb m) (n : Int) (hn : n ≤ 9223372036854775807) :
    Calls Try.prog 24 #[.pointer (some ⟨pb, 0, none⟩), .int .i64 n] w fun e w' => e = .returned (.tuple #[]) ∧ PoolL w0 w' pb { m with fuse := if 0 ≤ n then n else 0 } := by
  obtain ⟨h1, F, h2, h3⟩ := h
  refine (pool_fuse h3 n hn).mono ?_
  rintro e w' ⟨rfl, hs⟩
  exact ⟨rfl, PoolL.of_step h1 h2 hs⟩
theorem L_crash {w0 w : World} {pb : Nat} {m : PM} (h : PoolL w0 w pb m) (hk : m.calm) (x : Nat) (hx : x ≤ 18446744073709551615) :
    Calls Try.prog 28 #[.pointer (some ⟨pb, 0, none⟩), .int .u64 x] w fun e w' => e = .returned (.tuple #[]) ∧ PoolL w0 w' pb (m.crash x) := by
  obtain ⟨h1, F, h2, h3⟩ := h
  refine (pool_crash h3 hk x hx).mono ?_
  rintro e w' ⟨rfl, hs⟩
  exact ⟨rfl, PoolL.of_step h1 h2 hs⟩
theorem L_load {w0 w : World} {pb : Nat} {m : PM} (h : PoolL w0 w pb m) (hk : m.calm) (n S K : Int) :
    Calls Try.prog 29 #[.pointer (some ⟨pb, 0, none⟩), .int .i64 n, .int .i64 S, .int .i64 K] w fun e w' => ∃ v, e = .returned (.tuple #[v, .int .i64 (m.load n S K).2]) ∧ Bs w' (Fresh w) v (m.load n S K).1 ∧ PoolL w0 w' pb m := by
  have h' := h
  obtain ⟨h1, F, h2, h3⟩ := h
  refine (pool_load h3 hk n S K).mono ?_
  rintro e w' ⟨v, rfl, hv, hb⟩
  exact ⟨v, rfl, hv, h'.ext hb⟩
theorem L_len {w0 w : World} {pb : Nat} {m : PM} (h : PoolL w0 w pb m) : Calls Try.prog 31 #[.pointer (some ⟨pb, 0, none⟩)] w fun e w' => e = .returned (.int .i64 m.list.length) ∧ w = w' := by
  obtain ⟨h1, F, h2, h3⟩ := h
  exact pool_len h3
theorem L_free {w0 w : World} {pb : Nat} {m : PM} (h : PoolL w0 w pb m) (hk : m.calm) (n : Int) :
    Calls Try.prog 23 #[.pointer (some ⟨pb, 0, none⟩), .int .i64 n] w fun e w' => e = .returned (.int .i64 (m.free n)) ∧ PoolL w0 w' pb m := by
  have h' := h
  obtain ⟨h1, F, h2, h3⟩ := h
  refine (pool_free h3 hk n).mono ?_
  rintro e w' ⟨rfl, hb⟩
  exact ⟨rfl, h'.ext hb⟩
theorem L_lasts {w0 w : World} {pb : Nat} {m : PM} (h : PoolL w0 w pb m) (n S K : Int) :
    Calls Try.prog 27 #[.pointer (some ⟨pb, 0, none⟩), .int .i64 n, .int .i64 S, .int .i64 K] w fun e w' => e = .returned (.bool (m.lasts n S K)) ∧ PoolL w0 w' pb m := by
  have h' := h
  obtain ⟨h1, F, h2, h3⟩ := h
  refine (pool_lasts h3 n S K).mono ?_
  rintro e w' ⟨rfl, hb⟩
  exact ⟨rfl, h'.ext hb⟩
theorem L_held {w0 w : World} {pb : Nat} {m : PM} (h : PoolL w0 w pb m) (hk : m.calm) (n : Int) :
    Calls Try.prog 25 #[.pointer (some ⟨pb, 0, none⟩), .int .i64 n] w fun e w' => ∃ v, e = .returned v ∧ Prs w' (Fresh w) v (m.held n) ∧ PoolL w0 w' pb m := by
  have h' := h
  obtain ⟨h1, F, h2, h3⟩ := h
  refine (pool_held h3 hk n).mono ?_
  rintro e w' ⟨v, rfl, hv, hb⟩
  exact ⟨v, rfl, hv, h'.ext hb⟩

/-- A literal of bytes that the call has just laid, whatever its mark. -/
theorem Bs.lit (w : World) (cs : Array Value) (T : TypeId) (fr : Nat × Nat) (l : Bytes) (h : cs.toList = u8s l) (hl : l.length ≤ 1000) :
    Bs (w.alloc (.cells cs T fr)) (fun b => b = w.heap.size) (.slice (some ⟨w.heap.size, 0, none⟩) l.length l.length) l := by
  refine ⟨_, l.length, rfl, Nat.le_refl _, by unfold maxLen; omega, .inr ⟨w.heap.size, 0, rfl, rfl, by simp, fun j hj => ?_⟩⟩
  have hb : (w.alloc (.cells cs T fr)).heap[w.heap.size]? = some (.cells cs T fr) := heap_alloc_new w _
  have hc : cs[j]? = some (.int .u8 ((l.getD j 0).toNat : Int)) := by
    rw [← Array.getElem?_toList, h]
    simp [u8s, u8v, List.getElem?_eq_getElem hj, List.getD_eq_getElem?_getD]
  unfold World.cell?
  simp only [hb, Nat.zero_add, Option.isSome_none, Bool.false_eq_true, if_false]
  exact hc
theorem below_alloc0 {w0 w : World} (h : Below w0.heap.size w0 w) (o : Obj) : Below w0.heap.size w0 (w.alloc o) := h.alloc h.size o

def M0 : PM := ⟨[], -1, false⟩
def A1 : PM := M0.add 2
def A2 : PM := (A1.store 0 5 1 [97]).2
theorem A_e1 : (A1.store 0 5 1 [97]).1 = 0 := by decide +kernel
theorem A_e2 : (A2.load 0 5 1) = ([97], 0) := by decide +kernel
theorem A_e3 : A2.list.length = 1 := by decide +kernel
theorem A_e4 : A2.free 0 = 1 := by decide +kernel
theorem A_c1 : A1.calm := by
  intro i hi
  have : i = 0 := by have : A1.list.length = 1 := rfl; omega
  subst this
  show (A1.get 0).loose.length ≤ _
  have : (A1.get 0).loose.length = 0 := by decide +kernel
  omega
theorem A_c2 : A2.calm := by
  intro i hi
  have : i = 0 := by have := A_e3; omega
  subst this
  have : (A2.get 0).loose.length = 1 := by decide +kernel
  omega
end Go.Proofs.Fl

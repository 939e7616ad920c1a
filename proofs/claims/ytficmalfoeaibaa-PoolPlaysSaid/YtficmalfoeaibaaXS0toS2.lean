import Derived.Test.YtficmalfoeaibaaXF5
import Derived.Test.YtficmalfoeaibaaXG10toG14
namespace Go.Proofs.Fl
open Go.RowKit

/-- A pool made since B, whose blocks are none of K. -/
def PoolF (w : World) (B : Nat) (K : Nat → Prop) (pb : Nat) (m : PM) : Prop := ∃ F, (∀ b, F b → B ≤ b ∧ ¬ K b) ∧ PoolAt w F pb m
theorem PoolF.move {w w' : World} {B : Nat} {K K' T : Nat → Prop} {pb : Nat} {m : PM} (h : PoolF w B K pb m) (hm : Mod T w w') (hT : ∀ b, T b → K b) (hK : ∀ b, K' b → K b ∨ w.heap.size ≤ b) : PoolF w' B K' pb m := by
  obtain ⟨F, h1, h2⟩ := h
  refine ⟨F, fun b hb => ⟨(h1 b hb).1, fun hk => ?_⟩, h2.kept hm fun b hb ht => (h1 b hb).2 (hT b ht)⟩
  rcases hK b hk with h | h
  · exact (h1 b hb).2 h
  · have := h2.here b hb; omega
theorem PoolF.step {w w' : World} {B : Nat} {K F : Nat → Prop} {pb : Nat} {m' : PM} (h1 : ∀ b, F b → B ≤ b ∧ ¬ K b) (hs : PStep w F pb m' w') (hK : ∀ b, K b → b < w.heap.size) (hB : B ≤ w.heap.size) : PoolF w' B K pb m' ∧ Mod (fun b => B ≤ b ∧ ¬ K b) w w' := by
  refine ⟨⟨Ext F w w', fun b hb => ?_, hs.at_⟩, hs.mod.mono fun b _ hb => h1 b hb⟩
  rcases hb with hb | hb
  · exact h1 b hb
  · exact ⟨Nat.le_trans hB hb.1, fun hk => by have := hK b hk; have := hb.1; omega⟩
theorem PF_add {w : World} {B : Nat} {K : Nat → Prop} {pb : Nat} {m : PM} (h : PoolF w B K pb m) (hK : ∀ b, K b → b < w.heap.size) (hB : B ≤ w.heap.size) (s : Int) (hk : m.list.length < 12) :
    Calls Try.prog 19 #[.pointer (some ⟨pb, 0, none⟩), .int .i64 s] w fun e w' => e = .returned (.tuple #[.int .i64 m.list.length, .int .i64 0]) ∧ PoolF w' B K pb (m.add s) ∧ Mod (fun b => B ≤ b ∧ ¬ K b) w w' := by
  obtain ⟨F, h1, h2⟩ := h
  refine (pool_add h2 s hk).mono ?_
  rintro e w' ⟨rfl, hs⟩
  exact ⟨rfl, PoolF.step h1 hs hK hB⟩
theorem PF_store {w : World} {B : Nat} {K T : Nat → Prop} {pb : Nat} {m : PM} (h : PoolF w B K pb m) (hK : ∀ b, K b → b < w.heap.size) (hB : B ≤ w.heap.size) (hc : m.calm) (n S I : Int) {v : Value} {b : Bytes} (hBs : Bs w T v b) :
    Calls Try.prog 20 #[.pointer (some ⟨pb, 0, none⟩), .int .i64 n, .int .i64 S, .int .i64 I, v] w fun e w' => e = .returned (.int .i64 (m.store n S I b).1) ∧ PoolF w' B K pb (m.store n S I b).2 ∧ Mod (fun b => B ≤ b ∧ ¬ K b) w w' := by
  obtain ⟨F, h1, h2⟩ := h
  refine (pool_store h2 hc n S I hBs).mono ?_
  rintro e w' ⟨rfl, hs⟩
  exact ⟨rfl, PoolF.step h1 hs hK hB⟩
theorem PF_new (w : World) (B : Nat) (hB : B ≤ w.heap.size) (K : Nat → Prop) (hK : ∀ b, K b → b < w.heap.size) : Calls Try.prog 18 #[] w fun e w' => ∃ pb, e = .returned (.pointer (some ⟨pb, 0, none⟩)) ∧ PoolF w' B K pb ⟨[], -1, false⟩ ∧ Below w.heap.size w w' := by
  refine (pool_new w).mono ?_
  rintro e w' ⟨pb, rfl, h1, h2, h3⟩
  refine ⟨pb, rfl, ⟨_, fun b h => ?_, h3⟩, h2⟩
  rcases h with h | h
  · exact h.elim
  · exact ⟨Nat.le_trans hB h.1, fun hk => by have := hK b hk; have := h.1; omega⟩
theorem PoolF.toL {w0 w : World} {K : Nat → Prop} {pb : Nat} {m : PM} (h : PoolF w w0.heap.size K pb m) (hb : Below w0.heap.size w0 w) : PoolL w0 w pb m := by
  obtain ⟨F, h1, h2⟩ := h
  exact ⟨hb, F, fun b hb => (h1 b hb).1, h2⟩
end Go.Proofs.Fl

namespace Go.Proofs.Fl
open Go.RowKit

/-! ### what 'laid' lays -/
/-- so many drives of eight slots -/
def drivesM : Nat → PM
  | 0 => ⟨[], -1, false⟩
  | n + 1 => (drivesM n).add 8
/-- the places: the last drive first -/
def locsM (n i : Nat) : List Int := (List.range i).map fun (j : Nat) => (n : Int) - 1 - (j : Int)
theorem locsM_succ (n i : Nat) : locsM n (i + 1) = locsM n i ++ [(n : Int) - 1 - i] := by simp [locsM, List.range_succ]
theorem locsM_length (n i : Nat) : (locsM n i).length = i := by simp [locsM]
def fullM (k : Nat) (data : Bytes) : Bytes := (data ++ List.replicate 32 0).take (8 * k)
theorem fullM_length (k : Nat) (hk : k ≤ 4) (data : Bytes) : (fullM k data).length = 8 * k := by
  unfold fullM; rw [List.length_take, List.length_append, List.length_replicate]; omega
def bitB (x : UInt8) (i : Nat) : Bool := x.toNat / 2 ^ i % 2 == 1
/-- the pool, and the shards that are there, behind i rounds -/
def laidK (n : Nat) (all : List Bytes) (lack spoil : UInt8) : Nat → PM × List Bytes
  | 0 => (drivesM n, [])
  | i + 1 =>
    let t := laidK n all lack spoil i
    let b := all.getD i []
    if bitB lack i then (t.1, t.2 ++ [[]])
    else if bitB spoil i then ((t.1.store ((n : Int) - 1 - i) 33 i (b.take 3)).2, t.2 ++ [[]])
    else ((t.1.store ((n : Int) - 1 - i) 33 i b).2, t.2 ++ [b])
def laidM (k m : Nat) (data : Bytes) (lack spoil : UInt8) : PM × List Bytes := laidK (k + m) (rencM k m (fullM k data)) lack spoil (k + m)
end Go.Proofs.Fl

namespace Go.Proofs.Fl
open Go.RowKit
theorem E65 : Elem Try.prog 65 3 (.int .i64 0) 1 8 := ⟨Try.underlying65, by kernel_rfl, by decide, by decide⟩
theorem drives_len (n : Nat) : (drivesM n).list.length = n := by
  induction n with
  | zero => rfl
  | succ n ih =>
    unfold drivesM PM.add
    simp [ih]

/-- Bytes that came in: as Bs, or none of them, wherever they are. -/
def DatB (w : World) (S : Nat → Prop) (v : Value) (l : Bytes) : Prop := Bs w S v l ∨ (l = [] ∧ ∃ ad c, v = .slice (some ad) 0 c)
theorem DatB.shape {w : World} {S : Nat → Prop} {v : Value} {l : Bytes} (h : DatB w S v l) : ∃ ao c, v = .slice ao l.length c := by
  rcases h with h | ⟨rfl, ad, c, rfl⟩
  · exact h.shape
  · exact ⟨_, _, rfl⟩
theorem DatB.below {w w' : World} {S : Nat → Prop} {v : Value} {l : Bytes} (h : DatB w S v l) (hb : Below w.heap.size w w') : DatB w' S v l := by
  rcases h with h | h
  · exact .inl (h.below hb)
  · exact .inr h
theorem DatB.mono {w : World} {S T : Nat → Prop} {v : Value} {l : Bytes} (h : DatB w S v l) (hs : ∀ b, b < w.heap.size → S b → T b) : DatB w T v l := by
  rcases h with h | h
  · exact .inl (h.mono hs)
  · exact .inr h
theorem wpList_app_dat {P : Program} {w : World} {ops : Array Oper} {rest : List Oper} {o : Oper} {a : Act} {Q : Exit → Act → World → Prop} (hgd : o.guard = none) (s x : Operand) (t : TypeId) (ho : o.op = .call { callee := .builtin .append, args := #[s, x], argTypes := #[t, t] })
    {e : TypeId} {z : Value} (E : Elem P t e z 1 1) (base : Nat) {v : Value} {n : Nat} {xs : List Value} {S : Nat → Prop} {xv : Value} {l : Bytes}
    (hown : w.ownsRow base e 1 v n xs) (hB : DatB w S xv l) (hs : a.eval s = v) (hx : a.eval x = xv) (hb : n + l.length ≤ 1099511627776) (hbase : base ≤ w.heap.size)
    (h : ∀ v' w', w'.ownsRow base e 1 v' (n + l.length) (xs ++ u8s l) → Grew w v w' v' → wpList P ops Q rest (a.put o.dst v') w') :
    wpList P ops Q (o :: rest) a w := by
  rcases hB with hB | ⟨rfl, ad, c, rfl⟩
  · exact wpList_app_bs hgd s x t ho E base hown hB hs hx hb hbase fun v' w' h1 h2 _ => h v' w' h1 h2
  · exact wpList_app hgd s x t ho E base hown ad 0 c [] hs hx (by simp) (by intro j u hu; simp at hu) (by intro u hu; cases hu) (by simpa using hb) (by decide) hbase fun v' w' h1 h2 _ => h v' w' (by simpa [u8s] using h1) h2
/-- An empty literal. -/
theorem own_lit0 (w : World) (base : Nat) (e : TypeId) (size : Nat) (hb : base ≤ w.heap.size) : (w.alloc (.cells #[] e)).ownsRow base e size (.slice (some ⟨w.heap.size, 0, none⟩) 0 0) 0 [] :=
  ⟨by simp, .inr ⟨w.heap.size, 0, #[], rfl, hb, heap_alloc_new w _, Nat.le_refl _, by simp [maxLen], by simp, by simp⟩⟩

/-- laid's first loop: so many drives are there, and so many places. -/
def LaidI (w : World) (sb pb n i : Nat) (wr : World) : Prop := ∃ lv, PoolF wr w.heap.size (fun b => b = w.heap.size ∨ b = sb ∨ lv.ownBlock = some b) pb (drivesM i) ∧
  wr.heap[sb]? = some (.cells #[.int .i64 33, .int .i64 0, lv] 67 (0, 0)) ∧ wr.heap[w.heap.size]? = some (.cells #[.int .i64 0, .int .i64 0, .slice none 0 0] 67 (0, 0)) ∧
  wr.ownsRow w.heap.size 3 1 lv i ((locsM n i).map (Value.int .i64)) ∧ Below w.heap.size w wr
theorem own_not67 {w : World} {base size n b : Nat} {v : Value} {xs : List Value} {cs : Array Value} (h : w.ownsRow base 3 size v n xs) (hb : w.heap[b]? = some (.cells cs 67 (0, 0))) : v.ownBlock ≠ some b := by
  intro e
  obtain ⟨c, q⟩ := own_ty h b e
  rw [hb] at q
  injection q with q
  injection q with _ q
  exact absurd q (by decide)
theorem LaidI.next {w w2 w5 : World} {sb pb n i : Nat} {lv v' : Value} (hne : sb ≠ w.heap.size) (hsb : w.heap.size ≤ sb) (hP : PoolF w2 w.heap.size (fun b => b = w.heap.size ∨ b = sb ∨ lv.ownBlock = some b) pb (drivesM (i + 1)))
    (h1 : w2.heap[sb]? = some (.cells #[.int .i64 33, .int .i64 0, lv] 67 (0, 0))) (h2 : w2.heap[w.heap.size]? = some (.cells #[.int .i64 0, .int .i64 0, .slice none 0 0] 67 (0, 0)))
    (ho : w2.ownsRow w.heap.size 3 1 lv i ((locsM n i).map (Value.int .i64))) (hb : Below w.heap.size w w2)
    (ho5 : w5.ownsRow w.heap.size 3 1 v' (i + 1) ((locsM n i).map (Value.int .i64) ++ [.int .i64 ((n : Int) - 1 - i)])) (hg5 : Grew w2 lv w5 v') : LaidI w sb pb n (i + 1) (w5.setCell ⟨sb, 2, none⟩ v') := by
  have n1 := own_not67 ho h1
  have n2 := own_not67 ho h2
  have hm5 : Mod (fun b => lv.ownBlock = some b) w2 w5 := (Mod.refl _ w2).grown hg5.by_ (fun k hk _ => hk)
  have q1 := blk_mod hm5 h1 n1
  have q2 := blk_mod hm5 h2 n2
  have n3 := own_not67 ho5 q1
  have n4 := own_not67 ho5 q2
  have hms : Mod (fun b => b = sb) w5 (w5.setCell ⟨sb, 2, none⟩ v') := (Mod.refl (fun b => b = sb) w5).setCell (p := ⟨sb, 2, none⟩) (fun _ => rfl) v'
  have hm : Mod (fun b => b = sb ∨ lv.ownBlock = some b) w2 (w5.setCell ⟨sb, 2, none⟩ v') := (hm5.mono fun _ _ h => .inr h).trans (hms.mono (T := fun b => b = sb ∨ lv.ownBlock = some b) (fun _ _ h => .inl h))
  refine ⟨v', hP.move hm (fun b hb => ?_) (fun b hb => ?_), ?_, ?_, ?_, ?_⟩
  · rcases hb with hb | hb
    · exact .inr (.inl hb)
    · exact .inr (.inr hb)
  · rcases hb with hb | hb | hb
    · exact .inl (.inl hb)
    · exact .inl (.inr (.inl hb))
    · rcases hg5.blk with q | ⟨g, q, hq⟩
      · exact .inl (.inr (.inr (q ▸ hb)))
      · rw [q] at hb; injection hb with hb; subst hb; exact .inr hq
  · exact blk_set q1 2 v'
  · exact blk_mod hms q2 (fun e => hne e.symm)
  · rw [locsM_succ, List.map_append]
    exact own_mod ho5 hms (fun g hg e => n3 (e ▸ hg))
  · refine below_mod hb hb.size hm fun b hb => ?_
    rcases hb with hb | hb
    · rw [hb]; exact hsb
    · exact (ho.lt b hb).1
end Go.Proofs.Fl

import Derived.Test.YtficmalfoeaibaaXB0
import Derived.Laws.AppendOwnNone
import Derived.OwnWalk
namespace Go.Proofs.Fl
open Go.RowKit

/-- What the laws on append ask of a slice type's element type. -/
structure Elem (P : Program) (t e : TypeId) (z : Value) (size bytes : Nat) : Prop where
  under : P.underlying t = some (.slice e)
  info : (P.info? e).map (fun i => (i.zero, i.size, i.bytes)) = some (some z, size, bytes)
  zs : z.cells.size = size
  pos : 0 < size

variable {P : Program} {w : World} {ops : Array Oper} {rest : List Oper} {o : Oper} {a : Act} {Q : Exit → Act → World → Prop}

/-- The row is the old one's, or a new one. -/
def Blk (w : World) (v v' : Value) : Prop := v'.ownBlock = v.ownBlock ∨ ∃ g, v'.ownBlock = some g ∧ w.heap.size ≤ g
theorem Blk.refl (w : World) (v : Value) : Blk w v v := .inl rfl
theorem Blk.trans {w w1 : World} {v v1 v2 : Value} (h : Blk w v v1) (k : Blk w1 v1 v2) (hs : w.heap.size ≤ w1.heap.size) : Blk w v v2 := by
  rcases k with k | ⟨g, k, kg⟩
  · rcases h with h | ⟨g, h, hg⟩
    · exact .inl (k.trans h)
    · exact .inr ⟨g, k.trans h, hg⟩
  · exact .inr ⟨g, k, Nat.le_trans hs kg⟩

/-- What an append to an owned row does: 'grownBy', and where the row is now. -/
structure Grew (w : World) (v : Value) (w' : World) (v' : Value) : Prop where
  by_ : w.grownBy w' v.ownBlock
  blk : Blk w v v'
theorem Grew.refl (w : World) (v : Value) : Grew w v w v := ⟨World.grownBy.refl _ _, Blk.refl _ _⟩
theorem Grew.trans {w w1 w2 : World} {v v1 v2 : Value} (h : Grew w v w1 v1) (k : Grew w1 v1 w2 v2) : Grew w v w2 v2 := by
  refine ⟨⟨k.by_.os.trans h.by_.os, k.by_.tape.trans h.by_.tape, k.by_.output.trans h.by_.output, Nat.le_trans h.by_.size k.by_.size, fun i hi hne => ?_⟩, h.blk.trans k.blk h.by_.size⟩
  refine (k.by_.block i (Nat.lt_of_lt_of_le hi h.by_.size) fun e => ?_).trans (h.by_.block i hi hne)
  rcases h.blk with hb | ⟨g, hb, hg⟩
  · exact hne (by rw [← hb]; exact e)
  · rw [hb] at e; injection e with e; omega
theorem Grew.alloc {w w1 : World} {v v1 : Value} (h : Grew w v w1 v1) (o : Obj) : Grew w v (w1.alloc o) v1 :=
  h.trans ⟨World.grownBy_alloc w1 o _, Blk.refl _ _⟩
theorem Grew.below {w w1 w2 : World} {v v1 : Value} (h : Grew w v w1 v1) (k : Below w1.heap.size w1 w2) : Grew w v w2 v1 :=
  h.trans ⟨⟨k.os, k.tape, k.output, k.size, fun i hi _ => k.block i hi⟩, Blk.refl _ _⟩
theorem Grew.of_below {w w1 : World} (v : Value) (k : Below w.heap.size w w1) : Grew w v w1 v := (Grew.refl w v).below k
/-- The row that was begun in this call: nothing of what was there has turned. -/
theorem Grew.new {B : Nat} {w0 w w1 : World} {v v1 : Value} (hb : Below B w0 w) (hB : B ≤ w.heap.size) (h : Grew w v w1 v1) (hv : ∀ g, v.ownBlock = some g → B ≤ g) : Below B w0 w1 :=
  hb.grown h.by_ hB hv
theorem Grew.mod {S : Nat → Prop} {w0 w w1 : World} {v v1 : Value} (hb : Mod S w0 w) (h : Grew w v w1 v1) (hv : ∀ g, v.ownBlock = some g → g < w0.heap.size → S g) : Mod S w0 w1 := hb.grown h.by_ hv

theorem run_app {P : Program} (w : World) (t ty e : TypeId) {z : Value} {size bytes : Nat} (E : Elem P t e z size bytes) (base : Nat) {v : Value} {n : Nat} {xs : List Value} (hown : w.ownsRow base e size v n xs)
    (a : Addr) (m c : Nat) (news : List Value) (hl : news.length = m * size) (hnews : ∀ j u, news[j]? = some u → w.cell? (a.add j) = some u) (h1 : ∀ u ∈ news, u.oneCell' = true)
    (h63 : n + m ≤ 1099511627776) (hby : bytes ≤ 100) (hbase : base ≤ w.heap.size) :
    ∃ v' w', (Builtin.append_ #[t, t] ty #[v, .slice (some a) m c]).run P w = .ok v' w' ∧ w'.ownsRow base e size v' (n + m) (xs ++ news) ∧ Grew w v w' v' ∧ (v' = .slice none 0 0 ↔ v = .slice none 0 0 ∧ m = 0) := by
  obtain ⟨i, hi, hz, hsz, hbt⟩ := info_parts E.info
  have hbytes : (n + m) * bytes ≤ 140737488355328 := Nat.le_trans (Nat.mul_le_mul h63 hby) (by decide)
  have hmx : n + m ≤ maxLen := by simp only [maxLen]; omega
  obtain ⟨v', w', hrun, ho, hg, hn⟩ := run_append_own (P := P) w base t ty e i z size bytes E.under hi hz hsz hbt E.zs E.pos v n xs hown a m c news hl hnews h1 hmx hbytes hbase
  refine ⟨v', w', hrun, ho, ⟨hg, ?_⟩, hn⟩
  subst hsz
  rcases hown.2 with ⟨rfl, rfl⟩ | ⟨g, cap, cur, rfl, hbg, hgg, hnc, hcm, hcs, htake⟩
  · by_cases hm : m = 0
    · subst hm
      obtain rfl := hn.2 ⟨rfl, rfl⟩
      exact Blk.refl _ _
    · have hr := run_append_nil (P := P) w t ty e i z E.under hi hz a m c news hl hnews (by omega) (by omega) (by subst hbt; have hb := hbytes; simp only [Nat.zero_add] at hb; omega)
      rw [hr] at hrun
      injection hrun with hv _
      exact .inr ⟨w.heap.size, by rw [← hv]; rfl, Nat.le_refl _⟩
  · by_cases hroom : n + m ≤ cap
    · have hfit : n * i.size + news.length ≤ cur.size := by rw [hl, hcs, ← Nat.add_mul]; exact Nat.mul_le_mul_right _ hroom
      have hr := run_append_room (P := P) w t ty e i E.under hi g n cap cur hgg a m c news hl hnews h1 hroom hfit
      rw [hr] at hrun
      injection hrun with hv _
      exact .inl (by rw [← hv]; rfl)
    · have holds : ∀ j u, xs[j]? = some u → w.cell? ((⟨g, 0, none⟩ : Addr).add j) = some u := hown.cells (g := g) rfl
      have hr := run_append_grow (P := P) w t ty e i z E.under hi hz ⟨g, 0, none⟩ n cap xs hown.1 holds a m c news hl hnews (by omega) (by omega) (by rw [hbt]; exact growslice_fits (by omega) hbytes)
      rw [hr] at hrun
      injection hrun with hv _
      exact .inr ⟨w.heap.size, by rw [← hv]; rfl, Nat.le_refl _⟩

theorem wpList_app (hgd : o.guard = none) (s x : Operand) (t : TypeId) (ho : o.op = .call { callee := .builtin .append, args := #[s, x], argTypes := #[t, t] })
    {e : TypeId} {z : Value} {size bytes : Nat} (E : Elem P t e z size bytes) (base : Nat) {v : Value} {n : Nat} {xs : List Value} (hown : w.ownsRow base e size v n xs)
    (ad : Addr) (m c : Nat) (news : List Value) (hs : a.eval s = v) (hx : a.eval x = .slice (some ad) m c) (hl : news.length = m * size) (hnews : ∀ j u, news[j]? = some u → w.cell? (ad.add j) = some u)
    (h1 : ∀ u ∈ news, u.oneCell' = true) (h63 : n + m ≤ 1099511627776) (hby : bytes ≤ 100) (hbase : base ≤ w.heap.size)
    (h : ∀ v' w', w'.ownsRow base e size v' (n + m) (xs ++ news) → Grew w v w' v' → (v' = .slice none 0 0 ↔ v = .slice none 0 0 ∧ m = 0) → wpList P ops Q rest (a.put o.dst v') w') : wpList P ops Q (o :: rest) a w := by
  obtain ⟨v', w', hrun, h2, h3, h4⟩ := run_app (P := P) w t o.type e E base hown ad m c news hl hnews h1 h63 hby hbase
  refine wpList_plain hgd fun K hK => ?_
  unfold Oper.wp
  simp [execOp, ho, resolve, invoke, builtin, hs, hx, hrun, Result.andThen]
  exact hK _ _ (h v' w' h2 h3 h4)

/-- 's = append(s, x, ..)': the new elements lie in the block that was just laid. -/
theorem wpList_app_new (hgd : o.guard = none) (s x : Operand) (t : TypeId) (ho : o.op = .call { callee := .builtin .append, args := #[s, x], argTypes := #[t, t] })
    {e : TypeId} {z : Value} {size bytes : Nat} (E : Elem P t e z size bytes) (base : Nat) {v : Value} {n : Nat} {xs : List Value} (news : Array Value) (m : Nat)
    (hown : w.ownsRow base e size v n xs) (hs : a.eval s = v) (hx : a.eval x = .slice (some ⟨w.heap.size, 0, none⟩) m m)
    (hl : news.size = m * size) (h1 : ∀ u ∈ news.toList, u.oneCell' = true) (hb : n + m ≤ 1099511627776) (hb2 : bytes ≤ 100) (hbase : base ≤ w.heap.size)
    (h : ∀ v' w', w'.ownsRow base e size v' (n + m) (xs ++ news.toList) → Grew w v w' v' → (v' = .slice none 0 0 ↔ v = .slice none 0 0 ∧ m = 0) → wpList P ops Q rest (a.put o.dst v') w') :
    wpList P ops Q (o :: rest) a (w.alloc (.cells news e)) := by
  refine wpList_app (w := w.alloc (.cells news e)) hgd s x t ho E base (hown.alloc _) ⟨w.heap.size, 0, none⟩ m m news.toList hs hx (by simpa using hl) ?_ h1 hb hb2 (by simp; omega) ?_
  · intro j u hu
    have ha : (⟨w.heap.size, 0, none⟩ : Addr).add j = ⟨w.heap.size, j, none⟩ := by unfold Addr.add; split <;> simp_all
    rw [ha, World.cell?_alloc_new]
    simpa using hu
  · intro v' w' ho hg hn
    exact h v' w' ho (((Grew.refl w v).alloc _).trans hg) hn

/-- 's = append(s, x...)' of bytes. -/
theorem wpList_app_bs (hgd : o.guard = none) (s x : Operand) (t : TypeId) (ho : o.op = .call { callee := .builtin .append, args := #[s, x], argTypes := #[t, t] })
    {e : TypeId} {z : Value} (E : Elem P t e z 1 1) (base : Nat) {v : Value} {n : Nat} {xs : List Value} {S : Nat → Prop} {xv : Value} {l : Bytes}
    (hown : w.ownsRow base e 1 v n xs) (hB : Bs w S xv l) (hs : a.eval s = v) (hx : a.eval x = xv) (hb : n + l.length ≤ 1099511627776) (hbase : base ≤ w.heap.size)
    (h : ∀ v' w', w'.ownsRow base e 1 v' (n + l.length) (xs ++ u8s l) → Grew w v w' v' → (v' = .slice none 0 0 ↔ v = .slice none 0 0 ∧ l = []) → wpList P ops Q rest (a.put o.dst v') w') :
    wpList P ops Q (o :: rest) a w := by
  obtain ⟨i0, hi, hz0, hz1, hz2⟩ := info_parts E.info
  obtain ⟨ao, c, rfl, hlc, hcm, hsh⟩ := hB
  rcases hsh with ⟨rfl, rfl⟩ | ⟨b, o', rfl, _, hbw, hc⟩
  · have hl0 : l = [] := List.eq_nil_of_length_eq_zero (by omega)
    subst hl0
    exact wpList_append_own_none hgd s x t ho base e i0 1 E.under hi v n xs hs hown hx (by simpa using h v w (by simpa [u8s] using hown) (Grew.refl _ _) (by simp))
  · refine wpList_app hgd s x t ho E base hown ⟨b, o', none⟩ l.length c (u8s l) hs hx (by simp) (Bs.news hc) (u8s_one l) hb (by decide) hbase ?_
    intro v' w' h1 h2 h3
    exact h v' w' h1 h2 (by rw [h3]; simp [List.length_eq_zero_iff])
end Go.Proofs.Fl

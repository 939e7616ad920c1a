import Derived.Test.YtficmalfoeaibaaXD0toD3
import Derived.Deep.RegionLaw
namespace Go.Proofs.Fl
open Go.RowKit
variable {P : Program} {w : World} {ops : Array Oper} {rest : List Oper} {o : Oper} {a : Act} {Q : Exit → Act → World → Prop}

theorem own_below {w w1 : World} {base e size n : Nat} {v : Value} {xs : List Value} (h : w.ownsRow base e size v n xs) (hb : Below w.heap.size w w1) : w1.ownsRow base e size v n xs :=
  h.kept (row := none) ⟨hb.os, hb.tape, hb.output, hb.size, fun i hi _ => hb.block i hi⟩ (by cases v.ownBlock <;> simp)
theorem own_mod {S : Nat → Prop} {w w1 : World} {base e size n : Nat} {v : Value} {xs : List Value} (h : w.ownsRow base e size v n xs) (hm : Mod S w w1) (hs : ∀ g, v.ownBlock = some g → ¬ S g) : w1.ownsRow base e size v n xs := by
  refine ⟨h.1, ?_⟩
  rcases h.2 with hn | ⟨g, cap, cur, rfl, hb, hgg, rest⟩
  · exact .inl hn
  · exact .inr ⟨g, cap, cur, rfl, hb, blk_mod hm hgg (hs g rfl), rest⟩

theorem Bs.drew {w : World} {S : Nat → Prop} {v : Value} {l : Bytes} (h : Bs w S v l) : Bs w.drew S v l := h.drewN 1
theorem Bs.shape {w : World} {S : Nat → Prop} {v : Value} {l : Bytes} (h : Bs w S v l) : ∃ ao c, v = .slice ao l.length c := by
  obtain ⟨ao, c, e, _⟩ := h; exact ⟨ao, c, e⟩
theorem own_shape {w : World} {base e size n : Nat} {v : Value} {xs : List Value} (h : w.ownsRow base e size v n xs) : ∃ oa on_ oc, v = .slice oa on_ oc := by
  rcases h.2 with ⟨rfl, _⟩ | ⟨g, cap, cur, rfl, _⟩
  · exact ⟨_, _, _, rfl⟩
  · exact ⟨_, _, _, rfl⟩
theorem own_drew {w : World} {base e size n : Nat} {v : Value} {xs : List Value} (h : w.ownsRow base e size v n xs) : w.drew.ownsRow base e size v n xs := h
/-- 's = append(s, x, ..)' at a step of a region that draws its order. -/
theorem step_app_new {K : Act → World → Prop} {C : Prop} (hgd : o.guard = none) (s x : Operand) (t : TypeId) (ho : o.op = .call { callee := .builtin .append, args := #[s, x], argTypes := #[t, t] })
    {e : TypeId} {z : Value} {size bytes : Nat} (E : Elem P t e z size bytes) (base : Nat) {v : Value} {n : Nat} {xs : List Value} (news : Array Value) (m : Nat)
    (hown : w.ownsRow base e size v n xs) (hs : a.eval s = v) (hx : a.eval x = .slice (some ⟨w.heap.size, 0, none⟩) m m)
    (hl : news.size = m * size) (h1 : ∀ u ∈ news.toList, u.oneCell' = true) (hb : n + m ≤ 1099511627776) (hb2 : bytes ≤ 100) (hbase : base ≤ w.heap.size)
    (h : ∀ v' w', w'.ownsRow base e size v' (n + m) (xs ++ news.toList) → Grew w v w' v' → (v' = .slice none 0 0 ↔ v = .slice none 0 0 ∧ m = 0) → K (a.put o.dst v') w') :
    if Region.wanted o (yielded ops a.tmps) = true then Oper.wp P o a (w.alloc (.cells news e)) K Q else C := by
  rw [if_pos (by simp [Region.wanted, hgd])]
  obtain ⟨v', w', hrun, h2, h3, h4⟩ := run_app (P := P) (w.alloc (.cells news e)) t o.type e E base (hown.alloc _) ⟨w.heap.size, 0, none⟩ m m news.toList (by simpa using hl) (by
      intro j u hu
      have ha : (⟨w.heap.size, 0, none⟩ : Addr).add j = ⟨w.heap.size, j, none⟩ := by unfold Addr.add; split <;> simp_all
      rw [ha, World.cell?_alloc_new]
      simpa using hu) h1 hb hb2 (by simp; omega)
  unfold Oper.wp
  simp [execOp, ho, resolve, invoke, builtin, hs, hx, hrun, Result.andThen]
  exact h v' w' h2 (((Grew.refl w v).alloc _).trans h3) h4

theorem E107 : Elem Try.prog 107 tWrite (.agg #[.int .i64 0, .slice none 0 0]) 2 32 := ⟨Try.underlying107, by kernel_rfl, by decide, by decide⟩

/-- What a write leaves. -/
def WriteP (w : World) (db : Nat) (lv ov : Value) (i k : Nat) (xs : List Value) (l : Bytes) (w' : World) : Prop :=
  ∃ v1 ov' : Value, Bs w' (fun b => w.heap.size ≤ b ∧ ov'.ownBlock ≠ some b) v1 l ∧ w'.ownsRow 0 tWrite 2 ov' (k + 1) (xs ++ [.int .i64 i, v1]) ∧ Blk w ov ov' ∧ Mod (fun b => b = db ∨ ov.ownBlock = some b) w w' ∧ w'.heap[db]? = some (.cells #[lv, ov', .bool false] tDrive (0, 0))

set_option maxHeartbeats 1000000 in
set_option maxRecDepth 100000 in
theorem write_walk (db n c i : Nat) (ao : Option Addr) (ov v : Value) (k : Nat) (xs : List Value) (l : Bytes) (S : Nat → Prop) (w : World)
    (hD : w.heap[db]? = some (.cells #[.slice ao n c, ov, .bool false] tDrive (0, 0))) (hi : i < n) (hown : w.ownsRow 0 tWrite 2 ov k xs) (hB : Bs w S v l) (hl : l.length ≤ 64) (hk : k ≤ 1000000000) (hne : ov.ownBlock ≠ some db) :
    Calls Try.prog 100 #[.pointer (some ⟨db, 0, none⟩), .int .i64 i, v] w fun e w' => e = .returned (.int .i64 0) ∧ WriteP w db (.slice ao n c) ov i k xs l w' := by
  have h0 : w.cell? ⟨db, 0, none⟩ = some (.slice ao n c) := blk_cell hD rfl
  have h1 : w.cell? ⟨db, 1, none⟩ = some ov := blk_cell hD rfl
  have h2 : w.cell? ⟨db, 2, none⟩ = some (.bool false) := blk_cell hD rfl
  have hf := blk_free hD 1
  have hdb := blk_lt hD
  obtain ⟨ao1, m1, k1, rfl⟩ : ∃ ao m k, v = .slice ao m k := by obtain ⟨ao, c, e, _⟩ := hB; exact ⟨ao, _, c, e⟩
  have hlen := hB.len
  obtain rfl : l.length = m1 := hlen
  have h64 : ¬ (64 : Int) < (l.length : Int) := by omega
  have HD := Lib.hid hD; clear hD
  obtain ⟨oa, on_, oc, rfl⟩ := own_shape hown
  have HN := Lib.hid hne; clear hne
  have HO := Lib.hid hown
  go_enter Try.func100, Try.ntmps100
  go_wp2_with (go_at_call 104; refine (check_ok _ _ _ _ _ _ h0 h2 hi).mono ?_; rintro e w1 ⟨rfl, rfl⟩)
  have hBd := hB.drew
  have hod := own_drew hown
  clear hB hown
  go_region_law (first | (refine step_app_new rfl _ _ _ rfl E107 0 _ 1 (by assumption) rfl rfl rfl (by intro u hu; simp at hu; rcases hu with rfl | rfl <;> rfl) (by omega) (by decide) (by omega) ?_; intro v2 w2 hown2 hg2 _; have hD1 := (hb.block db hdb).trans HD.out; have hD2 := (hg2.by_.block db (blk_lt hD1) (Ne.symm HN.out)).trans hD1; have x1 : w2.cell? ⟨db, 1, none⟩ = some _ := blk_cell hD2 rfl; have x2 := blk_free hD2 1; obtain ⟨oa2, on2, oc2, rfl⟩ := own_shape hown2) | (go_simp; go_at_call 105; refine (clone_any hBd (by omega)).mono ?_; rintro e w1 ⟨v1, rfl, hC, hb⟩; obtain ⟨a2, c2, rfl⟩ := hC.shape; have hod1 := own_below hod hb; clear hod; have h1' := (hb.cell (p := ⟨db, 1, none⟩) (by simpa using hdb)).trans h1; have hdb1 := World.block_lt_of_cell? w1 _ h1'; simp only at hdb1))
  all_goals
    have hb' : Below w.heap.size w w1 := ⟨hb.os, hb.tape, hb.output, hb.size, hb.block⟩
    have hov : ∀ g, (Value.slice oa on_ oc).ownBlock = some g → g < w.heap.size := fun g hg => (HO.out.lt g hg).2
    have hmA : Mod (fun b => b = db ∨ (Value.slice oa on_ oc).ownBlock = some b) w1 (w2.setCell ⟨db, 1, none⟩ (.slice oa2 on2 oc2)) :=
      ((Mod.refl _ w1).grown hg2.by_ (fun k hk _ => .inr hk)).setCell (p := ⟨db, 1, none⟩) (fun _ => .inl rfl) _
    have hmW := (Mod.of_below (fun b => b = db ∨ (Value.slice oa on_ oc).ownBlock = some b) hb').trans hmA
    have hbl : Blk w (.slice oa on_ oc) (.slice oa2 on2 oc2) := (Blk.refl _ _).trans hg2.blk hb'.size
    have hne2 : ∀ g, (Value.slice oa2 on2 oc2).ownBlock = some g → ¬ g = db := by
      intro g hg e
      subst e
      rcases hbl with h | ⟨g', h, h'⟩
      · exact HN.out (h ▸ hg)
      · rw [h] at hg; injection hg with hg; omega
    have hown3 := own_mod hown2 ((Mod.refl (fun b => b = db) w2).setCell (p := ⟨db, 1, none⟩) (fun _ => rfl) (.slice oa2 on2 oc2)) hne2
    have hC2 := hC.mono (T := fun b => w.heap.size ≤ b ∧ (Value.slice oa2 on2 oc2).ownBlock ≠ some b) (fun k hk h => ⟨h, fun e => by
      rcases hg2.blk with h' | ⟨g', h', hg'⟩
      · have := hov k (h' ▸ e); have h1' : w.heap.size ≤ k := h; omega
      · rw [h'] at e; injection e with e; omega⟩)
    have hC3 := hC2.kept hmA (fun k _ h1 h2 => by
      have h1' : w.heap.size ≤ k := h1.1
      rcases h2 with h2 | h2
      · omega
      · have := hov k h2; omega)
    have hD3 := blk_set hD2 1 (.slice oa2 on2 oc2)
    have R := Lib.hid (And.intro hC3 (And.intro hown3 (And.intro hbl (And.intro hmW hD3))))
    clear hC2 hC3 hown3 hbl hmW hD3 hne2 hmA hov hb' hC hown2 hg2 hb hod1 h1' x1 x2 hD1 hD2
    go_wp2
    go_ret
    exact ⟨rfl, _, _, R.out.1, R.out.2.1, R.out.2.2.1, R.out.2.2.2.1, R.out.2.2.2.2⟩
end Go.Proofs.Fl

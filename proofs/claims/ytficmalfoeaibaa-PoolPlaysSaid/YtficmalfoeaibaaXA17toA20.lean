import Derived.Test.YtficmalfoeaibaaXA9toA16
import Derived.IntWalk
import Derived.Deep.CutBlock
import Derived.Deep.DeepCutAuto
import Derived.Deep.LoopGhost
namespace Go.Proofs.Fl
open Go.RowKit

theorem pool_store_dat {w : World} {F T : Nat → Prop} {pb : Nat} {m : PM} (h : PoolAt w F pb m) (hk : m.calm) (n S K : Int) {v : Value} {b : Bytes} (hD : DatB w T v b) :
    Calls Try.prog 20 #[.pointer (some ⟨pb, 0, none⟩), .int .i64 n, .int .i64 S, .int .i64 K, v] w fun e w' => e = .returned (.int .i64 (m.store n S K b).1) ∧ PStep w F pb (m.store n S K b).2 w' := by
  rcases hD with hB | ⟨hb0, ad, c, rfl⟩
  · exact pool_store h hk n S K hB
  · obtain ⟨lv, dbs, G, h⟩ := h
    unfold PM.store
    by_cases hn : 0 ≤ n ∧ n < m.list.length
    · obtain ⟨i, rfl⟩ : ∃ i : Nat, n = i := ⟨n.toNat, by omega⟩
      have e : ((i : Int)).toNat = i := rfl
      rw [e]
      have hi : i < m.list.length := by omega
      by_cases ha : S < 0 ∨ 1073741824 < S ∨ K < 0 ∨ 255 < K ∨ 50 < b.length
      · rw [if_pos (.inr ha)]
        have hbl : b.length = 0 := by rw [hb0]; rfl
        rw [hbl] at ha
        refine (store_args i S K _ _ (some ad) 0 c w (h.sel i hi) ⟨_, rfl⟩ ha).mono ?_
        rintro e w' ⟨rfl, rfl⟩
        exact ⟨rfl, h.pstep (Below.refl _ _)⟩
      · rw [if_neg (by rintro (h' | h'); exact h' hn; exact ha h')]
        obtain ⟨s, rfl⟩ : ∃ s : Nat, S = s := ⟨S.toNat, by omega⟩
        obtain ⟨k, rfl⟩ : ∃ k : Nat, K = k := ⟨K.toNat, by omega⟩
        exact store_go0 h i hi (hk i hi) s k (by omega) (by omega) hb0 _ rfl
    · rw [if_pos (.inl hn)]
      refine (store_none n S K _ _ w (h.nosel n hn)).mono ?_
      rintro e w' ⟨rfl, rfl⟩
      exact ⟨rfl, h.pstep (Below.refl _ _)⟩
end Go.Proofs.Fl
namespace Go.Proofs.Fr
open Go.RowKit Go.Proofs.Fl

theorem rstore_dat {w : World} {F T : Nat → Prop} {pb : Nat} {m : PM} (h : PoolAt w F pb m) (hk : m.calm) (n S K : Int) {v : Value} {b : Bytes} (hD : DatB w T v b) (hTF : ∀ b, T b → ¬ F b) :
    Calls Try.prog 33 #[.pointer (some ⟨pb, 0, none⟩), .int .i64 n, .int .i64 S, .int .i64 K, v] w fun e w' => e = .returned (.int .i64 (m.store n S K b).1) ∧ PStep w F pb (m.store n S K b).2 w' := by
  rcases hD with hB | ⟨hb0, ad, c, rfl⟩
  · exact rstore_any h hk n S K hB hTF
  · obtain ⟨lv, dbs, G, h⟩ := h
    unfold PM.store
    have hbl : b.length = 0 := by rw [hb0]; rfl
    by_cases ha : ¬ (0 ≤ n ∧ n < m.list.length) ∨ S < 0 ∨ 1073741824 < S ∨ K < 0 ∨ 255 < K ∨ 50 < b.length
    · rw [if_pos ha]
      rw [hbl] at ha
      refine (rstore_args h n S K (some ad) 0 c ha).mono ?_
      rintro e w' ⟨rfl, rfl⟩
      exact ⟨rfl, h.pstep (Below.refl _ _)⟩
    · rw [if_neg ha]
      obtain ⟨i, rfl⟩ : ∃ i : Nat, n = i := ⟨n.toNat, by omega⟩
      obtain ⟨s, rfl⟩ : ∃ s : Nat, S = s := ⟨S.toNat, by omega⟩
      obtain ⟨k, rfl⟩ : ∃ k : Nat, K = k := ⟨K.toNat, by omega⟩
      have hi : i < m.list.length := by omega
      exact rstore_go0 h i hi (hk i hi) s k (by omega) (by omega) hb0 _ rfl

/-! ### two pools side by side: the program's, and the reference's -/
structure Two (B : Nat) (K : Nat → Prop) (w : World) (pb vb : Nat) (m1 m2 : PM) : Prop where
  base : B ≤ w.heap.size
  kin : ∀ b, K b → b < w.heap.size
  is : ∃ F G : Nat → Prop, (∀ b, F b → B ≤ b ∧ ¬ K b) ∧ (∀ b, G b → B ≤ b ∧ ¬ K b) ∧ (∀ b, F b → ¬ G b) ∧ Fl.PoolAt w F pb m1 ∧ PoolAt w G vb m2
/-- What such a step leaves as it was. -/
abbrev Kept (B : Nat) (K : Nat → Prop) (w w' : World) : Prop := Mod (fun b => B ≤ b ∧ ¬ K b) w w'
theorem Two.below {B : Nat} {K : Nat → Prop} {w w' : World} {pb vb : Nat} {m1 m2 : PM} (h : Two B K w pb vb m1 m2) (hb : Below w.heap.size w w') : Two B K w' pb vb m1 m2 := by
  obtain ⟨F, G, h1, h2, h3, h4, h5⟩ := h.is
  exact ⟨Nat.le_trans h.base hb.size, fun b hb' => Nat.lt_of_lt_of_le (h.kin b hb') hb.size, F, G, h1, h2, h3, h4.below hb, h5.below hb⟩
theorem Two.grow {B : Nat} {K : Nat → Prop} {w w' : World} {pb vb : Nat} {m1 m2 : PM} (h : Two B K w pb vb m1 m2) (hb : Below w.heap.size w w') : Two B (fun b => K b ∨ (w.heap.size ≤ b ∧ b < w'.heap.size)) w' pb vb m1 m2 := by
  obtain ⟨F, G, h1, h2, h3, h4, h5⟩ := h.is
  refine ⟨Nat.le_trans h.base hb.size, fun b hb' => ?_, F, G, fun b hb' => ⟨(h1 b hb').1, ?_⟩, fun b hb' => ⟨(h2 b hb').1, ?_⟩, h3, h4.below hb, h5.below hb⟩
  · rcases hb' with hb' | hb'
    · exact Nat.lt_of_lt_of_le (h.kin b hb') hb.size
    · exact hb'.2
  · rintro (hk | hk)
    · exact (h1 b hb').2 hk
    · have := h4.here b hb'; omega
  · rintro (hk | hk)
    · exact (h2 b hb').2 hk
    · have := h5.here b hb'; omega
theorem Two.less {B : Nat} {K K' : Nat → Prop} {w : World} {pb vb : Nat} {m1 m2 : PM} (h : Two B K w pb vb m1 m2) (hK : ∀ b, K' b → K b) : Two B K' w pb vb m1 m2 := by
  obtain ⟨F, G, h1, h2, h3, h4, h5⟩ := h.is
  exact ⟨h.base, fun b hb => h.kin b (hK b hb), F, G, fun b hb => ⟨(h1 b hb).1, fun hk => (h1 b hb).2 (hK b hk)⟩, fun b hb => ⟨(h2 b hb).1, fun hk => (h2 b hb).2 (hK b hk)⟩, h3, h4, h5⟩
theorem Two.p {B : Nat} {K : Nat → Prop} {w : World} {pb vb : Nat} {m1 m2 : PM} (h : Two B K w pb vb m1 m2) : ∃ F : Nat → Prop, Fl.PoolAt w F pb m1 ∧ (∀ b, F b → B ≤ b ∧ ¬ K b) ∧ ∀ m1' w', Fl.PStep w F pb m1' w' → Two B K w' pb vb m1' m2 ∧ Kept B K w w' := by
  obtain ⟨F, G, h1, h2, h3, h4, h5⟩ := h.is
  refine ⟨F, h4, h1, fun m1' w' hs => ⟨⟨Nat.le_trans h.base hs.mod.size, fun b hb => Nat.lt_of_lt_of_le (h.kin b hb) hs.mod.size, Ext F w w', G, fun b hb => ?_, h2, fun b hb hg => ?_, hs.at_, h5.kept hs.mod (fun b hg hf => h3 b hf hg)⟩, hs.mod.mono fun b _ hb => h1 b hb⟩⟩
  · rcases hb with hb | hb
    · exact h1 b hb
    · exact ⟨Nat.le_trans h.base hb.1, fun hk => by have := h.kin b hk; have := hb.1; omega⟩
  · rcases hb with hb | hb
    · exact h3 b hb hg
    · have := h5.here b hg; have := hb.1; omega
theorem Two.v {B : Nat} {K : Nat → Prop} {w : World} {pb vb : Nat} {m1 m2 : PM} (h : Two B K w pb vb m1 m2) : ∃ G : Nat → Prop, PoolAt w G vb m2 ∧ (∀ b, G b → B ≤ b ∧ ¬ K b) ∧ ∀ m2' w', PStep w G vb m2' w' → Two B K w' pb vb m1 m2' ∧ Kept B K w w' := by
  obtain ⟨F, G, h1, h2, h3, h4, h5⟩ := h.is
  refine ⟨G, h5, h2, fun m2' w' hs => ⟨⟨Nat.le_trans h.base hs.mod.size, fun b hb => Nat.lt_of_lt_of_le (h.kin b hb) hs.mod.size, F, Ext G w w', h1, fun b hb => ?_, fun b hf hb => ?_, h4.kept hs.mod (fun b hf hg => h3 b hf hg), hs.at_⟩, hs.mod.mono fun b _ hb => h2 b hb⟩⟩
  · rcases hb with hb | hb
    · exact h2 b hb
    · exact ⟨Nat.le_trans h.base hb.1, fun hk => by have := h.kin b hk; have := hb.1; omega⟩
  · rcases hb with hb | hb
    · exact h3 b hf hb
    · have := h4.here b hf; have := hb.1; omega
end Go.Proofs.Fr

namespace Go.Proofs.Fr
open Go.RowKit Go.Proofs.Fl

/-! ### how many loose writes a drive has at most -/
def FewT (m : PM) (t : Nat) : Prop := ∀ i, i < m.list.length → (m.get i).loose.length ≤ t
theorem FewT.calm {m : PM} {t : Nat} (h : FewT m t) (ht : t ≤ 1000000) : m.calm := fun i hi => Nat.le_trans (h i hi) (by omega)
theorem FewT.more {m : PM} {t t' : Nat} (h : FewT m t) (ht : t ≤ t') : FewT m t' := fun i hi => Nat.le_trans (h i hi) ht
theorem FewT.setD {m : PM} {t : Nat} (h : FewT m t) (i : Nat) (d : DM) (hd : d.loose.length ≤ t) : FewT (m.setD i d) t := fun j hj => by
  have hj' : j < m.list.length := by simpa [PM.setD] using hj
  rw [setD_get]
  split
  · exact hd
  · exact h j hj'
theorem FewT.burn {m : PM} {t : Nat} (h : FewT m t) : FewT m.burn.2 t := fun i hi => by rw [burn_get]; exact h i (by rw [burn_list] at hi; exact hi)
theorem FewT.get {m : PM} {t : Nat} (h : FewT m t) (i : Nat) : (m.get i).loose.length ≤ t := by
  by_cases hi : i < m.list.length
  · exact h i hi
  · unfold PM.get
    rw [List.getD_eq_getElem?_getD, List.getElem?_eq_none (by omega)]
    exact Nat.zero_le _
theorem FewT.write {m : PM} {t : Nat} (h : FewT m t) (i j : Nat) (l : Bytes) : FewT (m.write i j l).2 (t + 1) := by
  unfold PM.write
  split
  · refine (h.burn.more (Nat.le_succ t)).setD i _ ?_
    have := h.get i
    simp [DM.put]; omega
  · exact h.burn.more (Nat.le_succ t)
theorem FewT.store {m : PM} {t : Nat} (h : FewT m t) (n S K : Int) (b : Bytes) : FewT (m.store n S K b).2 (t + 1) := by
  unfold PM.store
  split
  · exact h.more (Nat.le_succ t)
  · split
    · exact h.more (Nat.le_succ t)
    · split
      · exact h.more (Nat.le_succ t)
      · exact h.write _ _ _
theorem FewT.erase {m : PM} {t : Nat} (h : FewT m t) (n S K : Int) : FewT (m.erase n S K).2 (t + 1) := by
  unfold PM.erase
  split
  · exact h.more (Nat.le_succ t)
  · split
    · exact h.more (Nat.le_succ t)
    · exact h.write _ _ _
theorem FewT.flush {m : PM} {t : Nat} (h : FewT m t) (n : Int) : FewT (m.flush n).2 (t + 1) := by
  unfold PM.flush
  split
  · exact h.more (Nat.le_succ t)
  · split
    · exact (h.burn.more (Nat.le_succ t)).setD _ _ (by simp [DM.keep])
    · exact h.burn.more (Nat.le_succ t)
theorem FewT.crash {m : PM} {t : Nat} (_h : FewT m t) (x : Nat) : FewT (m.crash x) (t + 1) := fun i hi => by
  have hi' : i < m.list.length := by
    have : (m.crash x).list.length = m.list.length := crashTo_len m x _
    omega
  have e : (m.crash x).get i = (m.get i).keep (crashSel (rotN x (turnS i))) := by
    show (m.crashTo x m.list.length).get i = _
    rw [crashTo_get m x _ i (Nat.le_refl _), if_pos hi']
  rw [e]
  simp [DM.keep]
/-- A drive is lost. -/
def loseM (m : PM) (n : Int) : PM := if 0 ≤ n ∧ n < m.list.length then m.setD n.toNat DM.lose else m
theorem FewT.lose {m : PM} {t : Nat} (h : FewT m t) (n : Int) : FewT (loseM m n) (t + 1) := by
  unfold loseM
  split
  · exact (h.more (Nat.le_succ t)).setD _ _ (by simp [DM.lose])
  · exact h.more (Nat.le_succ t)

/-! ### what each does, of two pools side by side -/
variable {B : Nat} {K : Nat → Prop} {w : World} {pb vb : Nat} {m1 m2 : PM}
abbrev TP (B : Nat) (K : Nat → Prop) (w : World) (pb vb : Nat) (m1 m2 : PM) (r : Value) (e : Ending) (w' : World) : Prop := e = .returned r ∧ Two B K w' pb vb m1 m2 ∧ Kept B K w w'
theorem T_store (h : Two B K w pb vb m1 m2) (hc : m1.calm) (n S I : Int) {T : Nat → Prop} {v : Value} {b : Bytes} (hD : DatB w T v b) :
    Calls Try.prog 20 #[.pointer (some ⟨pb, 0, none⟩), .int .i64 n, .int .i64 S, .int .i64 I, v] w (TP B K w pb vb (m1.store n S I b).2 m2 (.int .i64 (m1.store n S I b).1)) := by
  obtain ⟨F, hP, hF, hn⟩ := h.p
  refine (pool_store_dat hP hc n S I hD).mono ?_
  rintro e w' ⟨rfl, hs⟩
  exact ⟨rfl, hn _ _ hs⟩
theorem V_store (h : Two B K w pb vb m1 m2) (hc : m2.calm) (n S I : Int) {v : Value} {b : Bytes} (hD : DatB w (fun b => b < B) v b) :
    Calls Try.prog 33 #[.pointer (some ⟨vb, 0, none⟩), .int .i64 n, .int .i64 S, .int .i64 I, v] w (TP B K w pb vb m1 (m2.store n S I b).2 (.int .i64 (m2.store n S I b).1)) := by
  obtain ⟨F, hP, hF, hn⟩ := h.v
  refine (rstore_dat hP hc n S I hD (fun b hb hf => by have := (hF b hf).1; omega)).mono ?_
  rintro e w' ⟨rfl, hs⟩
  exact ⟨rfl, hn _ _ hs⟩
theorem T_erase (h : Two B K w pb vb m1 m2) (hc : m1.calm) (n S I : Int) :
    Calls Try.prog 21 #[.pointer (some ⟨pb, 0, none⟩), .int .i64 n, .int .i64 S, .int .i64 I] w (TP B K w pb vb (m1.erase n S I).2 m2 (.int .i64 (m1.erase n S I).1)) := by
  obtain ⟨F, hP, hF, hn⟩ := h.p
  refine (pool_erase hP hc n S I).mono ?_
  rintro e w' ⟨rfl, hs⟩
  exact ⟨rfl, hn _ _ hs⟩
theorem V_erase (h : Two B K w pb vb m1 m2) (hc : m2.calm) (n S I : Int) :
    Calls Try.prog 36 #[.pointer (some ⟨vb, 0, none⟩), .int .i64 n, .int .i64 S, .int .i64 I] w (TP B K w pb vb m1 (m2.erase n S I).2 (.int .i64 (m2.erase n S I).1)) := by
  obtain ⟨F, hP, hF, hn⟩ := h.v
  refine (rerase_any hP hc n S I).mono ?_
  rintro e w' ⟨rfl, hs⟩
  exact ⟨rfl, hn _ _ hs⟩
theorem T_flush (h : Two B K w pb vb m1 m2) (hc : m1.calm) (n : Int) :
    Calls Try.prog 26 #[.pointer (some ⟨pb, 0, none⟩), .int .i64 n] w (TP B K w pb vb (m1.flush n).2 m2 (.int .i64 (m1.flush n).1)) := by
  obtain ⟨F, hP, hF, hn⟩ := h.p
  refine (pool_flush hP hc n).mono ?_
  rintro e w' ⟨rfl, hs⟩
  exact ⟨rfl, hn _ _ hs⟩
theorem V_flush (h : Two B K w pb vb m1 m2) (hc : m2.calm) (n : Int) :
    Calls Try.prog 37 #[.pointer (some ⟨vb, 0, none⟩), .int .i64 n] w (TP B K w pb vb m1 (m2.flush n).2 (.int .i64 (m2.flush n).1)) := by
  obtain ⟨F, hP, hF, hn⟩ := h.v
  refine (rflush_any hP hc n).mono ?_
  rintro e w' ⟨rfl, hs⟩
  exact ⟨rfl, hn _ _ hs⟩
theorem T_crash (h : Two B K w pb vb m1 m2) (hc : m1.calm) (x : Nat) (hx : x ≤ 18446744073709551615) :
    Calls Try.prog 28 #[.pointer (some ⟨pb, 0, none⟩), .int .u64 x] w (TP B K w pb vb (m1.crash x) m2 (.tuple #[])) := by
  obtain ⟨F, hP, hF, hn⟩ := h.p
  refine (pool_crash hP hc x hx).mono ?_
  rintro e w' ⟨rfl, hs⟩
  exact ⟨rfl, hn _ _ hs⟩
theorem V_crash (h : Two B K w pb vb m1 m2) (hc : m2.calm) (x : Nat) (hx : x ≤ 18446744073709551615) :
    Calls Try.prog 38 #[.pointer (some ⟨vb, 0, none⟩), .int .u64 x] w (TP B K w pb vb m1 (m2.crash x) (.tuple #[])) := by
  obtain ⟨F, hP, hF, hn⟩ := h.v
  refine (rcrash_any hP hc x hx).mono ?_
  rintro e w' ⟨rfl, hs⟩
  exact ⟨rfl, hn _ _ hs⟩
theorem T_fuse (h : Two B K w pb vb m1 m2) (n : Int) (hn : n ≤ 9223372036854775807) :
    Calls Try.prog 24 #[.pointer (some ⟨pb, 0, none⟩), .int .i64 n] w (TP B K w pb vb { m1 with fuse := if 0 ≤ n then n else 0 } m2 (.tuple #[])) := by
  obtain ⟨F, hP, hF, hnx⟩ := h.p
  refine (pool_fuse hP n hn).mono ?_
  rintro e w' ⟨rfl, hs⟩
  exact ⟨rfl, hnx _ _ hs⟩
theorem T_add (h : Two B K w pb vb m1 m2) (s : Int) (hk : m1.list.length < 12) :
    Calls Try.prog 19 #[.pointer (some ⟨pb, 0, none⟩), .int .i64 s] w (TP B K w pb vb (m1.add s) m2 (.tuple #[.int .i64 m1.list.length, .int .i64 0])) := by
  obtain ⟨F, hP, hF, hnx⟩ := h.p
  refine (pool_add hP s hk).mono ?_
  rintro e w' ⟨rfl, hs⟩
  exact ⟨rfl, hnx _ _ hs⟩
theorem T_add_full (h : Two B K w pb vb m1 m2) (s : Int) (hk : 12 ≤ m1.list.length) :
    Calls Try.prog 19 #[.pointer (some ⟨pb, 0, none⟩), .int .i64 s] w fun e w' => e = .returned (.tuple #[.int .i64 0, .int .i64 3]) ∧ w = w' := by
  obtain ⟨F, hP, hF, hnx⟩ := h.p
  exact pool_add_full hP s hk
/-- Drive, and Lose of what it answers. -/
theorem T_lose (h : Two B K w pb vb m1 m2) (n : Int) : ∃ pv, (∃ a, pv = Value.pointer a) ∧ Calls Try.prog 30 #[.pointer (some ⟨pb, 0, none⟩), .int .i64 n] w (fun e w' => e = .returned pv ∧ w = w') ∧
    Calls Try.prog 39 #[pv] w (TP B K w pb vb (loseM m1 n) m2 (.tuple #[])) := by
  obtain ⟨F, ⟨lv, dbs, G, hP⟩, hF, hnx⟩ := h.p
  refine ⟨ptrOf dbs n, by unfold ptrOf; split <;> exact ⟨_, rfl⟩, drive_of hP n, ?_⟩
  unfold ptrOf loseM
  rw [hP.len]
  by_cases hn : 0 ≤ n ∧ n < m1.list.length
  · rw [if_pos hn, if_pos hn]
    have hi : n.toNat < m1.list.length := by omega
    refine (drive_lose (hP.at_ n.toNat hi)).mono ?_
    rintro e w' ⟨rfl, hs⟩
    exact ⟨rfl, hnx _ _ (hP.drive n.toNat hi _ hs)⟩
  · rw [if_neg hn, if_neg hn]
    refine (lose_nil w).mono ?_
    rintro e w' ⟨rfl, rfl⟩
    exact ⟨rfl, h, Mod.refl _ _⟩
abbrev TR (w : World) (r : Value) (e : Ending) (w' : World) : Prop := e = .returned r ∧ Below w.heap.size w w'
theorem T_load (h : Two B K w pb vb m1 m2) (hc : m1.calm) (n S I : Int) :
    Calls Try.prog 29 #[.pointer (some ⟨pb, 0, none⟩), .int .i64 n, .int .i64 S, .int .i64 I] w fun e w' => ∃ v, e = .returned (.tuple #[v, .int .i64 (m1.load n S I).2]) ∧ Bs w' (fun _ => True) v (m1.load n S I).1 ∧ Below w.heap.size w w' := by
  obtain ⟨F, hP, hF, hnx⟩ := h.p
  refine (pool_load hP hc n S I).mono ?_
  rintro e w' ⟨v, rfl, hv, hb⟩
  exact ⟨v, rfl, hv.mono fun _ _ _ => trivial, hb⟩
theorem V_load (h : Two B K w pb vb m1 m2) (hc : m2.calm) (n S I : Int) :
    Calls Try.prog 34 #[.pointer (some ⟨vb, 0, none⟩), .int .i64 n, .int .i64 S, .int .i64 I] w fun e w' => ∃ v, e = .returned (.tuple #[v, .int .i64 (m2.load n S I).2]) ∧ Bs w' (fun _ => True) v (m2.load n S I).1 ∧ Below w.heap.size w w' := by
  obtain ⟨F, hP, hF, hnx⟩ := h.v
  refine (rload_any hP hc n S I).mono ?_
  rintro e w' ⟨v, rfl, hv, hb⟩
  exact ⟨v, rfl, hv.mono fun _ _ _ => trivial, hb⟩
theorem T_lasts (h : Two B K w pb vb m1 m2) (n S I : Int) : Calls Try.prog 27 #[.pointer (some ⟨pb, 0, none⟩), .int .i64 n, .int .i64 S, .int .i64 I] w (TR w (.bool (m1.lasts n S I))) := by
  obtain ⟨F, hP, hF, hnx⟩ := h.p
  exact pool_lasts hP n S I
theorem V_lasts (h : Two B K w pb vb m1 m2) (n S I : Int) : Calls Try.prog 41 #[.pointer (some ⟨vb, 0, none⟩), .int .i64 n, .int .i64 S, .int .i64 I] w (TR w (.bool (m2.lasts n S I))) := by
  obtain ⟨F, hP, hF, hnx⟩ := h.v
  exact rlasts_any hP n S I
theorem T_held (h : Two B K w pb vb m1 m2) (hc : m1.calm) (n : Int) : Calls Try.prog 25 #[.pointer (some ⟨pb, 0, none⟩), .int .i64 n] w (HeldV w (m1.held n)) := by
  obtain ⟨F, hP, hF, hnx⟩ := h.p
  exact pool_held hP hc n
theorem V_held (h : Two B K w pb vb m1 m2) (hc : m2.calm) (n : Int) : Calls Try.prog 43 #[.pointer (some ⟨vb, 0, none⟩), .int .i64 n] w (HeldV w (m2.held n)) := by
  obtain ⟨F, hP, hF, hnx⟩ := h.v
  exact rheld_any hP hc n
theorem T_free (h : Two B K w pb vb m1 m2) (hc : m1.calm) (n : Int) : Calls Try.prog 23 #[.pointer (some ⟨pb, 0, none⟩), .int .i64 n] w (TR w (.int .i64 (m1.free n))) := by
  obtain ⟨F, hP, hF, hnx⟩ := h.p
  exact pool_free hP hc n
theorem T_len (h : Two B K w pb vb m1 m2) : Calls Try.prog 31 #[.pointer (some ⟨pb, 0, none⟩)] w fun e w' => e = .returned (.int .i64 m1.list.length) ∧ w = w' := by
  obtain ⟨F, hP, hF, hnx⟩ := h.p
  exact pool_len hP
theorem V_use (h : Two B K w pb vb m1 m2) (n : Int) : Calls Try.prog 40 #[.pointer (some ⟨vb, 0, none⟩), .int .i64 n] w fun e w' => e = .returned (.int .i64 (m2.use n)) ∧ w = w' := by
  obtain ⟨F, ⟨lv, dbs, G, hP⟩, hF, hnx⟩ := h.v
  exact ruse_any hP n
/-- The reference's cells, where they are read in place. -/
theorem V_cells (h : Two B K w pb vb m1 m2) (i : Nat) (hi : i < m2.list.length) : ∃ ob cap db sa sc, w.cell? ⟨vb, 0, none⟩ = some (.slice (some ⟨ob, 0, none⟩) m2.list.length cap) ∧ w.cell? ⟨ob, i, none⟩ = some (.pointer (some ⟨db, 0, none⟩)) ∧ w.cell? ⟨db, 0, none⟩ = some (.slice sa (m2.get i).cap sc) ∧ (m2.get i).cap ≤ 128 ∧
    vb < w.heap.size ∧ ob < w.heap.size ∧ db < w.heap.size ∧
    (∃ x y z, w.heap[db]? = some (.cells #[x, y, z] rDrive (0, 0))) ∧ vb ≠ db ∧ ob ≠ db ∧ (∀ k, ¬ (K k) ∨ k ≠ db) ∧
    ∀ w', Mod (fun b => b = db) w w' → w'.heap[db]? = some (.cells #[.slice none 0 0, .slice none 0 0, .bool true] rDrive (0, 0)) → Two B K w' pb vb m1 (m2.setD i DM.lose) ∧ Kept B K w w' := by
  obtain ⟨F, ⟨lv, dbs, G, hP⟩, hF, hnx⟩ := h.v
  obtain ⟨ob, cap, rfl, k0, k1, g0, g1, ol, pl, obp⟩ := hP.open_ i hi
  have hat := hP.at_ i hi
  obtain ⟨sa, sc, q0, q2⟩ := hat.cells
  obtain ⟨lv, ov, x, hD⟩ : ∃ lv ov x, w.heap[dbs.getD i 0]? = some (.cells #[lv, ov, .bool x] rDrive (0, 0)) := by
    rcases hat.is with ⟨h1, h2, h3, h4, h5⟩ | ⟨h1, lb, ov, lvs, ovs, hl⟩
    · exact ⟨_, _, _, h5⟩
    · exact ⟨_, _, _, hl.blk⟩
  have hfd := hat.fdb
  refine ⟨ob, cap, dbs.getD i 0, sa, sc, k0, k1, q0, hat.cap_le, pl, ol, blk_lt hD, ⟨_, _, _, hD⟩, fun e => g1 (e ▸ hfd), fun e => g0 (e ▸ hfd), fun k => ?_, fun w' hm hb => ?_⟩
  · by_cases e : k = dbs.getD i 0
    · exact .inl (fun hk => (hF k (by rw [e]; exact (hP.sub i _ hfd).1)).2 hk)
    · exact .inr e
  · refine hnx _ _ (hP.drive i hi DM.lose ⟨hm.mono fun k _ e => e ▸ hfd, ⟨fun b hb' => ?_, .inl ⟨rfl, rfl, rfl, .inl hfd, hb⟩⟩⟩)
    rcases hb' with hb' | hb'
    · exact Nat.lt_of_lt_of_le (hat.here b hb') hm.size
    · exact hb'.2
/-- The reference's own block. -/
theorem V_head (h : Two B K w pb vb m1 m2) : ∃ ao cap, w.heap[vb]? = some (.cells #[.slice ao m2.list.length cap, .int .i64 m2.fuse, .bool m2.down] rPool (0, 0)) ∧ ¬ K vb ∧ B ≤ vb ∧
    ∀ w' f, Mod (fun b => b = vb) w w' → w'.heap[vb]? = some (.cells #[.slice ao m2.list.length cap, .int .i64 f, .bool m2.down] rPool (0, 0)) → -1 ≤ f → f ≤ 9223372036854775807 → Two B K w' pb vb m1 { m2 with fuse := f } ∧ Kept B K w w' := by
  obtain ⟨F, ⟨lv, dbs, G, hP⟩, hF, hnx⟩ := h.v
  obtain ⟨ao, ln, cap, rfl⟩ := own_shape hP.own
  obtain rfl := own_len hP.own
  exact ⟨ao, cap, hP.blk, (hF vb hP.fpb).2, (hF vb hP.fpb).1, fun w' f hm hb h1 h2 => hnx _ _ (hP.step hm f m2.down hb h1 h2)⟩
end Go.Proofs.Fr

namespace Go.Proofs.Fr
open Go.RowKit Go.Proofs.Fl

theorem E51 : Elem Try.prog 51 rPtr (.pointer none) 1 8 := ⟨Try.underlying51, by kernel_rfl, by decide, by decide⟩
def AddP (w : World) (pb : Nat) (lv : Value) (f : Int) (d : Bool) (n k : Nat) (xs : List Value) (w' : World) : Prop :=
  ∃ (db : Nat) (lv' : Value) (w1 : World), Below w.heap.size w w1 ∧ DriveAt w1 (Ext (fun _ => False) w w1) db (DM.new n) ∧ w'.ownsRow 0 rPtr 1 lv' (k + 1) (xs ++ [.pointer (some ⟨db, 0, none⟩)]) ∧ Blk w1 lv lv' ∧
    Mod (fun b => b = pb ∨ lv.ownBlock = some b) w1 w' ∧ w'.heap[pb]? = some (.cells #[lv', .int .i64 f, .bool d] rPool (0, 0))

theorem radd_step {w w' : World} {F : Nat → Prop} {pb : Nat} {lv : Value} {dbs : List Nat} {G : Nat → Nat → Prop} {m : PM} (h : PoolIn w F pb lv dbs G m) (s : Int) (hk : m.list.length < 12) (hA : AddP w pb lv m.fuse m.down (clampN s) m.list.length (ptrs dbs) w') : PStep w F pb (m.add s) w' := by
  obtain ⟨db, lv', w1, hb, hdr, hown, hblk, hmod, hD⟩ := hA
  have hpb := h.here pb h.fpb
  have hTF : ∀ b, (b = pb ∨ lv.ownBlock = some b) → F b := fun b hb => by
    rcases hb with rfl | hb
    · exact h.fpb
    · exact (h.ownF b hb).1
  have hmW : Mod F w w' := (Mod.of_below F hb).then hmod fun i _ hi => hTF i hi
  have hsz := hb.size
  have hsz2 := hmod.size
  have h1 := h.kept (Mod.of_below (fun _ => False) hb) fun _ _ => id
  have hlv' : ∀ g, lv'.ownBlock = some g → lv.ownBlock = some g ∨ (w1.heap.size ≤ g ∧ g < w'.heap.size) := fun g hg => by
    rcases hblk with e | ⟨g', e, hg'⟩
    · exact .inl (e ▸ hg)
    · rw [e] at hg; injection hg with hg; subst hg
      exact .inr ⟨hg', (hown.lt _ e).2⟩
  refine ⟨hmW, lv', dbs ++ [db], fun i b => if i = m.list.length then (w.heap.size ≤ b ∧ b < w1.heap.size) else G i b, ?_⟩
  have hnew : DriveAt w' (fun b => w.heap.size ≤ b ∧ b < w1.heap.size) db (DM.new (clampN s)) := by
    have := hdr.kept hmod (fun b hb' hT => by
      rcases hb' with hb' | hb'
      · exact hb'.elim
      · rcases hT with rfl | hT
        · omega
        · have := h.here b (h.ownF b hT).1; omega)
    exact this.mono (fun b hb => by rcases hb with hb | hb; exact hb.elim; exact hb) (fun b hb => by omega)
  exact {
    here := Ext.here h.here hmW.size
    blk := hD
    fpb := .inl h.fpb
    own := by simpa [PM.add, ptrs] using hown
    ownF := fun g hg => by
      rcases hlv' g hg with h' | h'
      · have hx := h.ownF g h'
        refine ⟨.inl hx.1, hx.2.1, fun i => ?_⟩
        have := h.here g hx.1
        split
        · omega
        · exact hx.2.2 i
      · refine ⟨.inr (by omega), by omega, fun i => ?_⟩
        split
        · omega
        · intro hGi; have := h.here g (h.sub i g hGi).1; omega
    len := by simp [PM.add, h.len]
    at_ := fun i hi => by
      have hi' : i < m.list.length + 1 := by simpa [PM.add] using hi
      simp only [PM.add]
      rw [getD_append_one _ _ _ _ (by rw [h.len]; exact hi'), getD_append_one _ _ _ _ hi', h.len]
      by_cases e : i = m.list.length
      · simp only [if_pos e]; exact hnew
      · simp only [if_neg e]
        exact (h1.at_ i (by omega)).kept hmod fun b hb hT => by
          rcases hT with rfl | hT
          · exact (h.sub i _ hb).2 rfl
          · exact (h.ownF b hT).2.2 i hb
    sub := fun i b hGi => by
      split at hGi
      · exact ⟨.inr (by omega), by omega⟩
      · exact ⟨.inl (h.sub i b hGi).1, (h.sub i b hGi).2⟩
    apart := fun i j b hi hj => by
      split at hi
      · split at hj
        · omega
        · have := h.here b (h.sub j b hj).1; omega
      · split at hj
        · have := h.here b (h.sub i b hi).1; omega
        · exact h.apart i j b hi hj
    few := by simp [PM.add]; omega
    fuse1 := h.fuse1
    fuse2 := h.fuse2 }
variable {B : Nat} {K : Nat → Prop} {w : World} {pb vb : Nat} {m1 m2 : PM}
theorem V_add (h : Two B K w pb vb m1 m2) (hk : m2.list.length < 12) : ∃ ao cap xs, w.heap[vb]? = some (.cells #[.slice ao m2.list.length cap, .int .i64 m2.fuse, .bool m2.down] rPool (0, 0)) ∧ w.ownsRow 0 rPtr 1 (.slice ao m2.list.length cap) m2.list.length xs ∧ (Value.slice ao m2.list.length cap).ownBlock ≠ some vb ∧
    ∀ s w', AddP w vb (.slice ao m2.list.length cap) m2.fuse m2.down (clampN s) m2.list.length xs w' → Two B K w' pb vb m1 (m2.add s) ∧ Kept B K w w' := by
  obtain ⟨F, ⟨lv, dbs, G, hP⟩, hF, hnx⟩ := h.v
  obtain ⟨ao, ln, cap, rfl⟩ := own_shape hP.own
  obtain rfl := own_len hP.own
  exact ⟨ao, cap, ptrs dbs, hP.blk, hP.own, fun e => (hP.ownF vb e).2.1 rfl, fun s w' hA => hnx _ _ (radd_step hP s hk hA)⟩
end Go.Proofs.Fr

namespace Go.Proofs.Fr
open Go.RowKit Go.Proofs.Fl

structure ActM where
  what : Int
  drive : Int
  stripe : Int
  pos : Int
  b : Bytes
  keep : Nat
instance : Inhabited ActM := ⟨⟨0, 0, 0, 0, [], 0⟩⟩
/-- The acts, as they lie in memory. -/
def ActsAt (w : World) (v : Value) (l : List ActM) : Prop := ∃ ao c, v = .slice ao l.length c ∧ (0 < l.length → ∃ b o, ao = some ⟨b, o, none⟩ ∧ b < w.heap.size ∧ ∀ j, j < l.length → ∃ ba bc,
  w.cell? ⟨b, o + j * 6, none⟩ = some (.int .i64 (l.getD j default).what) ∧ w.cell? ⟨b, o + j * 6 + 1, none⟩ = some (.int .i64 (l.getD j default).drive) ∧ w.cell? ⟨b, o + j * 6 + 2, none⟩ = some (.int .i64 (l.getD j default).stripe) ∧
  w.cell? ⟨b, o + j * 6 + 3, none⟩ = some (.int .i64 (l.getD j default).pos) ∧ w.cell? ⟨b, o + j * 6 + 4, none⟩ = some (.slice ba (l.getD j default).b.length bc) ∧ w.cell? ⟨b, o + j * 6 + 5, none⟩ = some (.int .u64 (l.getD j default).keep) ∧
  DatB w (fun b => b < w.heap.size) (.slice ba (l.getD j default).b.length bc) (l.getD j default).b ∧ (l.getD j default).b.length ≤ maxLen ∧ (l.getD j default).keep ≤ 18446744073709551615 ∧ (l.getD j default).pos ≤ 9223372036854775807)

/-- The drives that the first loop has added. -/
def capsM (cl : Bytes) : Nat → PM
  | 0 => ⟨[], -1, false⟩
  | i + 1 => if i < 12 then (capsM cl i).add (((cl.getD i 0).toNat % 9 : Nat) : Int) else capsM cl i
theorem capsM_len (cl : Bytes) (i : Nat) : (capsM cl i).list.length = min i 12 := by
  induction i with
  | zero => rfl
  | succ i ih =>
    unfold capsM
    split
    · show ((capsM cl i).list ++ [_]).length = _
      rw [List.length_append, ih, List.length_singleton]; omega
    · rw [ih]; omega
theorem capsM_few (cl : Bytes) (i : Nat) : FewT (capsM cl i) 0 := by
  induction i with
  | zero => exact fun i hi => absurd hi (Nat.not_lt_zero _)
  | succ i ih =>
    unfold capsM
    split
    · intro j hj
      unfold PM.get PM.add
      by_cases h : j < (capsM cl i).list.length
      · rw [List.getD_eq_getElem?_getD, List.getElem?_append_left h, ← List.getD_eq_getElem?_getD]; exact ih j h
      · have hj' : j < (capsM cl i).list.length + 1 := by simpa [PM.add] using hj
        rw [List.getD_eq_getElem?_getD, List.getElem?_append_right (by omega), show j - (capsM cl i).list.length = 0 by omega]
        exact Nat.le_refl _
    · exact ih
theorem two_init {w w1 : World} {pb : Nat} (hb : Below w.heap.size w w1) (hP : Fl.PoolAt w1 (Ext (fun _ => False) w w1) pb ⟨[], -1, false⟩) :
    Two w.heap.size (fun _ => False) (w1.alloc (.cells #[.slice none 0 0, .int .i64 (-1), .bool false] 53)) pb w1.heap.size ⟨[], -1, false⟩ ⟨[], -1, false⟩ := by
  have hs := hb.size
  have hb2 : Below w1.heap.size w1 (w1.alloc (.cells #[.slice none 0 0, .int .i64 (-1), .bool false] 53)) := (Below.refl _ _).alloc (Nat.le_refl _) _
  refine ⟨by simp; omega, fun _ h => h.elim, Ext (fun _ => False) w w1, fun b => b = w1.heap.size, fun b h => ⟨?_, fun h => h⟩, fun b h => ⟨by omega, fun h => h⟩, fun b h h2 => ?_, hP.below hb2, .slice none 0 0, [], fun _ _ => False, ?_⟩
  · rcases h with h | h
    · exact h.elim
    · exact h.1
  · rcases h with h | h
    · exact h.elim
    · omega
  · exact {
      here := fun b hb => by subst hb; simp
      blk := heap_alloc_new w1 _
      fpb := rfl
      own := World.ownsRow_nil _ _ _ _
      ownF := fun g hg => by simp [Value.ownBlock] at hg
      len := rfl
      at_ := fun i hi => by simp at hi
      sub := fun _ _ h => h.elim
      apart := fun _ _ _ h => h.elim
      few := by simp
      fuse1 := by simp
      fuse2 := by simp }
/-! ### the drives stay as many -/
theorem setD_llen (m : PM) (i : Nat) (d : DM) : (m.setD i d).list.length = m.list.length := by simp [PM.setD]
theorem write_len (m : PM) (i j : Nat) (l : Bytes) : (m.write i j l).2.list.length = m.list.length := by
  unfold PM.write
  split
  · rw [setD_llen, burn_list]
  · rw [burn_list]
theorem store_len (m : PM) (n S K : Int) (b : Bytes) : (m.store n S K b).2.list.length = m.list.length := by
  unfold PM.store
  split
  · rfl
  · split
    · rfl
    · split
      · rfl
      · exact write_len _ _ _ _
theorem erase_len (m : PM) (n S K : Int) : (m.erase n S K).2.list.length = m.list.length := by
  unfold PM.erase
  split
  · rfl
  · split
    · rfl
    · exact write_len _ _ _ _
theorem flush_len (m : PM) (n : Int) : (m.flush n).2.list.length = m.list.length := by
  unfold PM.flush
  split
  · rfl
  · split
    · show (m.burn.2.setD _ _).list.length = _; rw [setD_llen, burn_list]
    · show m.burn.2.list.length = _; rw [burn_list]
theorem lose_len (m : PM) (n : Int) : (loseM m n).list.length = m.list.length := by
  unfold loseM
  split
  · exact setD_llen _ _ _
  · rfl
/-- What an act leaves of the bounds. -/
structure Nxt (m m' : PM) (t : Nat) : Prop where
  few : FewT m' (t + 1)
  len : m'.list.length = m.list.length
theorem V_free0 {B : Nat} {K : Nat → Prop} {w : World} {pb vb : Nat} {m1 m2 : PM} (h : Two B K w pb vb m1 m2) (n : Int) (h0 : m2.use n ≠ 0) : m2.free n = 0 ∧ loseM m2 n = m2 := by
  obtain ⟨F, ⟨lv, dbs, G, hP⟩, hF, hnx⟩ := h.v
  unfold PM.free loseM
  by_cases hn : 0 ≤ n ∧ n < m2.list.length
  · rw [if_pos hn, if_pos hn]
    unfold PM.use at h0
    rw [if_pos hn] at h0
    have hlo : (m2.get n.toNat).lost = true := by
      cases hl : (m2.list.getD n.toNat dNone).lost with
      | true => exact hl
      | false => rw [hl] at h0; simp at h0
    have hi : n.toNat < m2.list.length := by omega
    have hat := hP.at_ n.toNat hi
    change DriveAt w (G n.toNat) (dbs.getD n.toNat 0) (m2.get n.toNat) at hat
    have hc := hat.lost_cap hlo
    have hh := held_le (m2.get n.toNat)
    refine ⟨by omega, ?_⟩
    have e : m2.get n.toNat = DM.lose := by
      rcases hat.is with ⟨h1, h2, h3, _, _⟩ | ⟨h1, _⟩
      · generalize m2.get n.toNat = d at *
        obtain ⟨a, b, c⟩ := d
        simp only at h1 h2 h3
        subst h1; subst h2; subst h3; rfl
      · rw [h1] at hlo; cases hlo
    unfold PM.setD
    rw [← e]
    have : m2.list.set n.toNat (m2.get n.toNat) = m2.list := by
      unfold PM.get
      rw [List.getD_eq_getElem?_getD, List.getElem?_eq_getElem hi, Option.getD_some]
      exact List.set_getElem_self hi
    rw [this]
  · rw [if_neg hn, if_neg hn]; exact ⟨rfl, rfl⟩
theorem load_le {B : Nat} {K : Nat → Prop} {w : World} {pb vb : Nat} {m1 m2 : PM} (h : Two B K w pb vb m1 m2) (n S I : Int) : (m1.load n S I).1.length ≤ 64 := by
  obtain ⟨F, ⟨lv, dbs, G, hP⟩, hF, hnx⟩ := h.p
  unfold PM.load
  split
  · simp
  · rename_i hu
    have hu0 : m1.use n = 0 := by simpa using hu
    obtain ⟨i, rfl, hi, _⟩ : ∃ i : Nat, n = i ∧ i < m1.list.length ∧ (m1.get i).lost = false := by
      rcases use_cases m1 n with h1 | h1 | ⟨h1, h2⟩
      · omega
      · omega
      · exact h2
    rw [show ((i : Int)).toNat = i from rfl]
    cases hf : (m1.get i).find S I with
    | none => simp
    | some j =>
      have hle := (hP.at_ i hi).get_le j (find_lt hf)
      change ((m1.get i).get j).length ≤ 64 at hle
      show (match openF ((m1.get i).get j) with | none => [] | some (_, _, b) => b).length ≤ 64
      generalize (m1.get i).get j = l at *
      cases ho : openF l with
      | none => simp
      | some r =>
        obtain ⟨s, p, b⟩ := r
        unfold openF at ho
        split at ho
        · cases ho
        · split at ho
          · injection ho with ho
            injection ho with _ ho
            injection ho with _ ho
            show b.length ≤ 64
            rw [← ho]; simp; omega
          · cases ho
theorem held_len {B : Nat} {K : Nat → Prop} {w : World} {pb vb : Nat} {m1 m2 : PM} (h : Two B K w pb vb m1 m2) (n : Int) : (m1.held n).length ≤ 128 := by
  obtain ⟨F, ⟨lv, dbs, G, hP⟩, hF, hnx⟩ := h.p
  unfold PM.held
  split
  · have := (hP.at_ n.toNat (by omega)).cap_le
    exact Nat.le_trans (held_le _) this
  · simp
/-- The four cells of an act that are read in a drawn region. -/
abbrev CsP (c : Nat) (dr st po : Int) (ba : Option Addr) (bl bc : Nat) (u : World) : Prop := u.cell? ⟨c, 1, none⟩ = some (.int .i64 dr) ∧ u.cell? ⟨c, 2, none⟩ = some (.int .i64 st) ∧ u.cell? ⟨c, 3, none⟩ = some (.int .i64 po) ∧ u.cell? ⟨c, 4, none⟩ = some (.slice ba bl bc)
theorem TP.keep {B : Nat} {K : Nat → Prop} {W u : World} {pb vb : Nat} {m1 m2 : PM} {r : Value} {f : Nat} {args : Array Value} {S : World → Prop} (hk : Kept B K W u) (hkeep : ∀ u, Kept B K W u → S u) (h : Calls Try.prog f args u (TP B K u pb vb m1 m2 r)) :
    Calls Try.prog f args u (fun e w' => e = .returned r ∧ Two B K w' pb vb m1 m2 ∧ Kept B K W w' ∧ S w') := by
  refine h.mono ?_
  rintro e w' ⟨rfl, h1, h2⟩
  have h3 := hk.trans h2
  exact ⟨rfl, h1, h3, hkeep _ h3⟩
theorem TR.keep {W u : World} {r : Value} {f : Nat} {args : Array Value} {S : World → Prop} (hk : Below W.heap.size W u) (hkeep : ∀ u, Below W.heap.size W u → S u) (h : Calls Try.prog f args u (TR u r)) :
    Calls Try.prog f args u (fun e w' => e = .returned r ∧ Below W.heap.size W w' ∧ S w') := by
  refine h.mono ?_
  rintro e w' ⟨rfl, h2⟩
  have h3 := hk.trans (h2.mono hk.size)
  exact ⟨rfl, h3, hkeep _ h3⟩
theorem HeldV.keep {W u : World} {l : List (Nat × Nat)} {f : Nat} {args : Array Value} {S : World → Prop} (hk : Below W.heap.size W u) (hkeep : ∀ u, Below W.heap.size W u → S u) (h : Calls Try.prog f args u (HeldV u l)) :
    Calls Try.prog f args u (fun e w' => ∃ v, (∃ a c, v = Value.slice a l.length c) ∧ e = .returned v ∧ Prs w' (fun _ => True) v l ∧ Below u.heap.size u w' ∧ Below W.heap.size W w' ∧ S w') := by
  refine h.mono ?_
  rintro e w' ⟨v, rfl, hv, h2⟩
  have h3 := hk.trans (h2.mono hk.size)
  obtain ⟨a, c, e, hh⟩ := hv
  exact ⟨v, ⟨a, c, e⟩, rfl, ⟨a, c, e, fun h0 => by obtain ⟨b, q1, _, q2, q3⟩ := hh h0; exact ⟨b, q1, trivial, q2, q3⟩⟩, h2, h3, hkeep _ h3⟩
theorem Prs.below {w w' : World} {S : Nat → Prop} {v : Value} {l : List (Nat × Nat)} (h : Prs w S v l) (hb : Below w.heap.size w w') : Prs w' S v l := by
  obtain ⟨a, c, e, hh⟩ := h
  refine ⟨a, c, e, fun h0 => ?_⟩
  obtain ⟨b, q1, q2, q3, q4⟩ := hh h0
  exact ⟨b, q1, q2, Nat.lt_of_lt_of_le q3 hb.size, fun j hj => ⟨(hb.cell (p := ⟨b, j * 2, none⟩) q3).trans (q4 j hj).1, (hb.cell (p := ⟨b, j * 2 + 1, none⟩) q3).trans (q4 j hj).2⟩⟩
/-- What the switch leaves. -/
def SwI (B : Nat) (K : Nat → Prop) (W : World) (pb vb : Nat) (m : PM) (t : Nat) (e f : Value) (wx : World) : Prop := ∃ (n : Nat) (m' : PM), e = .int .i64 n ∧ f = .int .i64 n ∧ Two B K wx pb vb m' m' ∧ Kept B K W wx ∧ Nxt m m' t
def PlaysI (w : World) (pb vb : Nat) (m : PM) (wr : World) : Prop := Two w.heap.size (fun _ => False) wr pb vb m m ∧ Mod (fun b => w.heap.size ≤ b) w wr

set_option maxHeartbeats 100000000 in
set_option maxRecDepth 100000 in
theorem plays_law {cv av : Value} {cl : Bytes} {acts : List ActM} {w : World} (hC : DatB w (fun b => b < w.heap.size) cv cl) (hcl : cl.length ≤ maxLen) (hA : ActsAt w av acts) (hal : acts.length ≤ maxLen) :
    Calls Try.prog 7 #[cv, av] w fun e w' => e = .returned (.bool true) ∧ Below w.heap.size w w' := by
  obtain ⟨ca, cc, rfl⟩ := hC.shape
  obtain ⟨aa, ac, rfl, hacts⟩ := hA
  unfold maxLen at hcl hal
  have HC := Lib.hid hC; have HA := Lib.hid hacts
  clear hC hacts
  by_cases h60 : 60 < acts.length
  · have h60i : (60 : Int) < (acts.length : Int) := by omega
    go_enter Try.func7, Try.ntmps7
    go_wp2_with (go_at_call 22; refine (answers08 _).mono ?_; rintro e w1 ⟨rfl, hb1⟩)
    go_ret
    exact ⟨rfl, hb1⟩
  have h60i : ¬ (60 : Int) < (acts.length : Int) := by omega
  go_enter Try.func7, Try.ntmps7
  go_wp2_with (fail)
  refine (pool_new w).mono ?_
  rintro e w1 ⟨pb, rfl, hpb, hb1, hP⟩
  have hI0 := two_init hb1 hP
  have hm0 : Mod (fun b => w.heap.size ≤ b) w (w1.alloc (.cells #[.slice none 0 0, .int .i64 (-1), .bool false] 53)) := Mod.of_below _ (hb1.alloc hb1.size _)
  have HI := Lib.hid (show PlaysI w pb w1.heap.size (capsM cl 0) (w1.alloc (.cells #[.slice none 0 0, .int .i64 (-1), .bool false] 53)) from ⟨hI0, hm0⟩)
  clear hb1 hP hI0 hm0 hpb
  go_upto_block 0 with (fail)
  obtain ⟨wb, hwb⟩ : ∃ wb, w1.alloc (.cells #[.slice none 0 0, .int .i64 (-1), .bool false] 53) = wb := ⟨_, rfl⟩
  rw [hwb] at HI ⊢
  clear hwb
  generalize w1.heap.size = vb at *
  go_cut [7] (fun _ wx => ∃ m, PlaysI w pb vb m wx ∧ FewT m 0 ∧ m.list.length ≤ 12)
  case rest =>
    obtain ⟨m, hI, hfew, hml⟩ := hcut
    go_wp2
    go_loopg [10] acts.length (fun k i wr => ∃ (j : Nat) (m : PM), j + k = acts.length ∧ i = .int .i64 j ∧ PlaysI w pb vb m wr ∧ FewT m j ∧ m.list.length ≤ 12)
    case atStart => exact ⟨0, m, by omega, rfl, hI, hfew, hml⟩
    case round =>
      obtain ⟨j, m, hjk, rfl, ⟨hT, hm⟩, hfew, hml⟩ := hrel
      by_cases hlt : j < acts.length
      · obtain ⟨ab, ao, rfl, hab, hcells⟩ := HA.out (by omega)
        obtain ⟨ba, bc, c0, c1, c2, c3, c4, c5, hD, hbl, hkp, hps⟩ := hcells j hlt
        generalize acts.getD j default = a at *
        obtain ⟨wh, dr, st, po, bb, kp⟩ := a
        simp only at c0 c1 c2 c3 c4 c5 hD hbl hkp hps
        have hold : ∀ k, wr.cell? ⟨ab, k, none⟩ = w.cell? ⟨ab, k, none⟩ := fun k => hm.cell (p := ⟨ab, k, none⟩) hab (fun h => by have h' : w.heap.size ≤ ab := h; omega)
        have x0 := (hold _).trans c0; have x1 := (hold _).trans c1; have x2 := (hold _).trans c2; have x3 := (hold _).trans c3; have x4 := (hold _).trans c4; have x5 := (hold _).trans c5
        obtain ⟨W, hW⟩ : ∃ W, wr.alloc ((Obj.cells #[.int .i64 wh, .int .i64 dr, .int .i64 st, .int .i64 po, .slice ba bb.length bc, .int .u64 kp] 57 (0, 0))) = W := ⟨_, rfl⟩
        have hbW : Below wr.heap.size wr W := by rw [← hW]; exact (Below.refl _ _).alloc (Nat.le_refl _) _
        have hcW : W.heap[wr.heap.size]? = some ((Obj.cells #[.int .i64 wh, .int .i64 dr, .int .i64 st, .int .i64 po, .slice ba bb.length bc, .int .u64 kp] 57 (0, 0))) := by rw [← hW]; exact heap_alloc_new _ _
        have hTW := hT.grow hbW
        have hmW : Mod (fun b => w.heap.size ≤ b) w W := hm.trans (Mod.of_below _ hbW)
        have hjl : (j : Int) < (acts.length : Int) := by omega
        obtain ⟨c, hc⟩ : ∃ c, wr.heap.size = c := ⟨_, rfl⟩
        rw [hc] at hcW
        have HCW := Lib.hid hcW
        have y0 : W.cell? ⟨c, 0, none⟩ = some (.int .i64 wh) := blk_cell hcW rfl
        have y4 : W.cell? ⟨c, 4, none⟩ = some (.slice ba bb.length bc) := blk_cell hcW rfl
        clear hold c0 c1 c2 c3 c4 c5 hcells hcW
        by_cases h100 : 100 < bb.length
        · have h100i : (100 : Int) < (bb.length : Int) := by omega
          as_aux_lemma =>
            have HR := Lib.hid (show PlaysI w pb vb m W from ⟨hT.below hbW, hmW⟩)
            have HF := Lib.hid (hfew.more (Nat.le_succ j))
            clear hT hm hTW hmW hfew hD hbW
            go_wp2
            go_roundg (acts.length - (j + 1))
            case measure => omega
            case rel => exact ⟨j + 1, m, by omega, by go_num, HR.out, HF.out, hml⟩
        · have h100i : ¬ (100 : Int) < (bb.length : Int) := by omega
          have hcl : c < W.heap.size := blk_lt HCW.out
          obtain ⟨K, hK⟩ : ∃ K : Nat → Prop, (fun b => False ∨ (wr.heap.size ≤ b ∧ b < W.heap.size)) = K := ⟨_, rfl⟩
          have hKc : K c := by rw [← hK, ← hc]; exact .inr ⟨Nat.le_refl _, by omega⟩
          rw [hK] at hTW
          have hDW : DatB W (fun b => b < w.heap.size) (.slice ba bb.length bc) bb := by
            rcases hD with hD | hD
            · exact .inl ((hD.mono (T := fun b => b < w.heap.size) (fun b _ h => h)).kept hmW (fun b _ h h' => by have h1 : b < w.heap.size := h; have h2 : w.heap.size ≤ b := h'; omega))
            · exact .inr hD
          have HT := Lib.hid hTW; have HMW := Lib.hid hmW; have HFW := Lib.hid hfew; have HD := Lib.hid hDW; have HKC := Lib.hid hKc
          clear hT hm hTW hmW hfew hD hDW hKc hbW hK
          go_upto_block 4 with (fail)
          clear hW hc
          go_cut [12, 13] (SwI w.heap.size K W pb vb m j)
          case first =>
            have hkeep : ∀ u, Kept w.heap.size K W u → CsP c dr st po ba bb.length bc u := fun u hu => by
              have hb := blk_mod hu HCW.out (fun h => h.2 HKC.out)
              exact ⟨blk_cell hb rfl, blk_cell hb rfl, blk_cell hb rfl, blk_cell hb rfl⟩
            have HKP := Lib.hid hkeep
            have HK5 := Lib.hid (fun u (hu : Kept w.heap.size K W u) => (blk_cell (blk_mod hu HCW.out (fun h => h.2 HKC.out)) rfl : u.cell? ⟨c, 5, none⟩ = some (.int .u64 kp)))
            have hd : Kept w.heap.size K W W.drew := (Mod.refl _ W).drew
            have hTd := HT.out.below (show Below W.heap.size W W.drew from (Below.refl _ W).drew)
            have hcalm : m.calm := HFW.out.calm (by omega)
            have hDu : ∀ u, Kept w.heap.size K W u → DatB u (fun b => b < w.heap.size) (.slice ba bb.length bc) bb := fun u hu => by
              rcases HD.out with hD | hD
              · exact .inl (hD.kept hu (fun b _ h h' => by have h1 : b < w.heap.size := h; have h2 := h'.1; omega))
              · exact .inr hD
            obtain ⟨y1, y2, y3, y4⟩ := hkeep W (Mod.refl _ _)
            by_cases w0 : wh = 0
            · subst w0
              as_aux_lemma =>
                have h1 := TP.keep (S := CsP c dr st po ba bb.length bc) hd hkeep (T_store hTd hcalm dr st po (hDu _ hd))
                have h2 := fun u (hu : Two w.heap.size K u pb vb (m.store dr st po bb).2 m) (hk : Kept w.heap.size K W u) => TP.keep (S := CsP c dr st po ba bb.length bc) hk hkeep (V_store hu hcalm dr st po (hDu u hk))
                have hnx : Nxt m (m.store dr st po bb).2 j := ⟨HFW.out.store dr st po bb, store_len m dr st po bb⟩
                obtain ⟨⟨rn, rm⟩, hR⟩ : ∃ R, m.store dr st po bb = R := ⟨_, rfl⟩
                rw [hR] at h1 h2 hnx
                have H1 := Lib.hid h1; have H2 := Lib.hid h2; have HNX := Lib.hid hnx
                clear h1 h2 hnx hR hkeep hd hTd hcalm hDu
                go_wp2
                go_region_held3 (fun w' => w'.cell? ⟨c, 1, none⟩ = some (.int .i64 dr) ∧ w'.cell? ⟨c, 2, none⟩ = some (.int .i64 st) ∧ w'.cell? ⟨c, 3, none⟩ = some (.int .i64 po) ∧ w'.cell? ⟨c, 4, none⟩ = some (.slice ba bb.length bc)) (go_keep) ((first | (go_at_call 20; refine H1.out.mono ?_; rintro e w3 ⟨rfl, hT3, hk3, q1, q2, q3, q4⟩) | (go_at_call 33; refine (H2.out _ hT3 hk3).mono ?_; rintro e w4 ⟨rfl, hT4, hk4, p1, p2, p3, p4⟩)))
                have HR := Lib.hid (show SwI w.heap.size K W pb vb m j (.int .i64 rn) (.int .i64 rn) w4 from ⟨_, _, rfl, rfl, hT4, hk4, HNX.out⟩)
                clear hT3 hk3 hT4 hk4 q1 q2 q3 q4 p1 p2 p3 p4 H1 H2
                go_wp2
                go_meet
                exact HR.out
            by_cases w1 : wh = 1
            · subst w1
              as_aux_lemma =>
                have h1 := T_load HT.out hcalm dr st po
                have h64 := load_le HT.out dr st po
                obtain ⟨⟨lb, ln⟩, hR⟩ : ∃ R, m.load dr st po = R := ⟨_, rfl⟩
                have h2 := fun u (hu : Two w.heap.size K u pb vb m m) => V_load hu hcalm dr st po
                rw [hR] at h1 h2 h64
                simp only at h64
                have H1 := Lib.hid h1; have H2 := Lib.hid h2
                clear h1 h2 hR hkeep hd hTd hcalm hDu
                go_wp2_with (fail)
                refine H1.out.mono ?_
                rintro e w3 ⟨v3, rfl, hv3, hb3⟩
                obtain ⟨q1, q2, q3, _⟩ := HKP.out w3 (Mod.of_below _ hb3)
                obtain ⟨v3a, v3c, rfl⟩ := hv3.shape
                have HV3 := Lib.hid hv3; have HB3 := Lib.hid hb3
                clear hv3 hb3
                go_wp2_with (fail)
                refine (H2.out _ (HT.out.below HB3.out)).mono ?_
                rintro e w4 ⟨v4, rfl, hv4, hb4⟩
                obtain ⟨v4a, v4c, rfl⟩ := hv4.shape
                have HV34 := Lib.hid (HV3.out.below hb4); have HV4 := Lib.hid hv4; have HB4 := Lib.hid (HB3.out.trans (hb4.mono HB3.out.size))
                have t1 : lb.length ≤ 1000000 := by omega
                clear hv4 hb4 HV3
                go_wp2_with (fail)
                refine (same_same HV34.out HV4.out t1).mono ?_
                rintro e w5 ⟨rfl, hb5⟩
                have hb5' := HB4.out.trans (hb5.mono HB4.out.size)
                have HR := Lib.hid (show SwI w.heap.size K W pb vb m j (.int .i64 ln) (.int .i64 ln) w5 from ⟨_, _, rfl, rfl, HT.out.below hb5', Mod.of_below _ hb5', ⟨HFW.out.more (Nat.le_succ j), rfl⟩⟩)
                clear hb5 hb5' HV34 HV4 HB4 HB3 q1 q2 q3
                go_wp2
                go_meet
                exact HR.out
            by_cases w2 : wh = 2
            · subst w2
              as_aux_lemma =>
                have h1 := TP.keep (S := CsP c dr st po ba bb.length bc) hd hkeep (T_erase hTd hcalm dr st po)
                have h2 := fun u (hu : Two w.heap.size K u pb vb (m.erase dr st po).2 m) (hk : Kept w.heap.size K W u) => TP.keep (S := CsP c dr st po ba bb.length bc) hk hkeep (V_erase hu hcalm dr st po)
                have hnx : Nxt m (m.erase dr st po).2 j := ⟨HFW.out.erase dr st po, erase_len m dr st po⟩
                obtain ⟨⟨rn, rm⟩, hR⟩ : ∃ R, m.erase dr st po = R := ⟨_, rfl⟩
                rw [hR] at h1 h2 hnx
                have H1 := Lib.hid h1; have H2 := Lib.hid h2; have HNX := Lib.hid hnx
                clear h1 h2 hnx hR hkeep hd hTd hcalm hDu
                go_wp2
                go_region_held3 (fun w' => w'.cell? ⟨c, 1, none⟩ = some (.int .i64 dr) ∧ w'.cell? ⟨c, 2, none⟩ = some (.int .i64 st) ∧ w'.cell? ⟨c, 3, none⟩ = some (.int .i64 po) ∧ w'.cell? ⟨c, 4, none⟩ = some (.slice ba bb.length bc)) (go_keep) ((first | (go_at_call 21; refine H1.out.mono ?_; rintro e w3 ⟨rfl, hT3, hk3, q1, q2, q3, q4⟩) | (go_at_call 36; refine (H2.out _ hT3 hk3).mono ?_; rintro e w4 ⟨rfl, hT4, hk4, p1, p2, p3, p4⟩)))
                have HR := Lib.hid (show SwI w.heap.size K W pb vb m j (.int .i64 rn) (.int .i64 rn) w4 from ⟨_, _, rfl, rfl, hT4, hk4, HNX.out⟩)
                clear hT3 hk3 hT4 hk4 q1 q2 q3 q4 p1 p2 p3 p4 H1 H2
                go_wp2
                go_meet
                exact HR.out
            by_cases w3 : wh = 3
            · subst w3
              as_aux_lemma =>
                have h1 := TP.keep (S := CsP c dr st po ba bb.length bc) hd hkeep (T_flush hTd hcalm dr)
                have h2 := fun u (hu : Two w.heap.size K u pb vb (m.flush dr).2 m) (hk : Kept w.heap.size K W u) => TP.keep (S := CsP c dr st po ba bb.length bc) hk hkeep (V_flush hu hcalm dr)
                have hnx : Nxt m (m.flush dr).2 j := ⟨HFW.out.flush dr, flush_len m dr⟩
                obtain ⟨⟨rn, rm⟩, hR⟩ : ∃ R, m.flush dr = R := ⟨_, rfl⟩
                rw [hR] at h1 h2 hnx
                have H1 := Lib.hid h1; have H2 := Lib.hid h2; have HNX := Lib.hid hnx
                clear h1 h2 hnx hR hkeep hd hTd hcalm hDu
                go_wp2
                go_region_held3 (fun w' => w'.cell? ⟨c, 1, none⟩ = some (.int .i64 dr) ∧ w'.cell? ⟨c, 2, none⟩ = some (.int .i64 st) ∧ w'.cell? ⟨c, 3, none⟩ = some (.int .i64 po) ∧ w'.cell? ⟨c, 4, none⟩ = some (.slice ba bb.length bc)) (go_keep) ((first | (go_at_call 26; refine H1.out.mono ?_; rintro e w3 ⟨rfl, hT3, hk3, q1, q2, q3, q4⟩) | (go_at_call 37; refine (H2.out _ hT3 hk3).mono ?_; rintro e w4 ⟨rfl, hT4, hk4, p1, p2, p3, p4⟩)))
                have HR := Lib.hid (show SwI w.heap.size K W pb vb m j (.int .i64 rn) (.int .i64 rn) w4 from ⟨_, _, rfl, rfl, hT4, hk4, HNX.out⟩)
                clear hT3 hk3 hT4 hk4 q1 q2 q3 q4 p1 p2 p3 p4 H1 H2
                go_wp2
                go_meet
                exact HR.out
            by_cases w4 : wh = 4
            · subst w4
              as_aux_lemma =>
                have h1 := TP.keep (S := fun u => u.cell? ⟨c, 5, none⟩ = some (.int .u64 kp)) (Mod.refl _ W) HK5.out (T_crash HT.out hcalm kp hkp)
                have h2 := fun u (hu : Two w.heap.size K u pb vb (m.crash kp) m) (hk : Kept w.heap.size K W u) => TP.keep (S := fun u => u.cell? ⟨c, 5, none⟩ = some (.int .u64 kp)) hk HK5.out (V_crash hu hcalm kp hkp)
                have hnx : Nxt m (m.crash kp) j := ⟨HFW.out.crash kp, crashTo_len m kp _⟩
                have y5 := HK5.out W (Mod.refl _ _)
                have H1 := Lib.hid h1; have H2 := Lib.hid h2; have HNX := Lib.hid hnx
                have HKPL := Lib.hid hkp
                clear h1 h2 hnx hkeep hd hTd hcalm hDu hkp
                go_wp2_with (fail)
                refine H1.out.mono ?_
                rintro e w3 ⟨rfl, hT3, hk3, q5⟩
                have HT3 := Lib.hid hT3; have HK3 := Lib.hid hk3
                clear hT3 hk3
                go_wp2_with (fail)
                refine (H2.out _ HT3.out HK3.out).mono ?_
                rintro e w4 ⟨rfl, hT4, hk4, _⟩
                have HR := Lib.hid (show SwI w.heap.size K W pb vb m j (.int .i64 0) (.int .i64 0) w4 from ⟨0, _, rfl, rfl, hT4, hk4, HNX.out⟩)
                clear hT4 hk4 q5 H1 H2
                go_wp2
                go_meet
                exact HR.out
            by_cases w5 : wh = 5
            · subst w5
              as_aux_lemma =>
                obtain ⟨pv, ⟨pa, rfl⟩, hd1, hl1⟩ := T_lose HT.out dr
                have hlf := HFW.out.lose dr
                have hll := lose_len m dr
                have hml5 := hml
                have HD1 := Lib.hid hd1; have HL1 := Lib.hid hl1
                clear hd1 hl1 hd hTd hcalm hDu hkeep
                go_wp2_with (fail)
                refine HD1.out.mono ?_
                rintro e w3 ⟨rfl, rfl⟩
                go_wp2_with (fail)
                refine HL1.out.mono ?_
                rintro e w3 ⟨rfl, hT3, hk3⟩
                obtain ⟨q1, q2, q3, q4⟩ := HKP.out w3 hk3
                have hus := V_use hT3 dr
                have h0f := V_free0 hT3 dr
                have huc := use_cases m dr
                have HT3 := Lib.hid hT3; have HK3 := Lib.hid hk3
                have HNX := Lib.hid (show Nxt m (loseM m dr) j from ⟨hlf, hll⟩)
                clear hT3 hk3 hlf hll HD1 HL1
                by_cases hu0 : m.use dr = 0
                · rw [hu0] at hus
                  obtain ⟨i, hi, him⟩ : ∃ i : Nat, dr = i ∧ i < m.list.length := by
                    rcases huc with h1 | h1 | ⟨_, i, h1, h2, _⟩
                    · omega
                    · omega
                    · exact ⟨i, h1, h2⟩
                  subst hi
                  obtain ⟨ob, cap, db, sa, sc, k0, k1, _, _, lv, lo, ld, ⟨dx, dy, dz, hdb⟩, n1, n2, n3, hstep⟩ := V_cells HT3.out i him
                  have hii : (i : Int) < (m.list.length : Int) := by omega
                  have f0 := blk_free hdb 0; have f1 := blk_free hdb 1; have f2 := blk_free hdb 2
                  have z0 : w3.cell? ⟨db, 0, none⟩ = some dx := blk_cell hdb rfl
                  have z1 : w3.cell? ⟨db, 1, none⟩ = some dy := blk_cell hdb rfl
                  have z2 : w3.cell? ⟨db, 2, none⟩ = some dz := blk_cell hdb rfl
                  have hcd : c ≠ db := by
                    rcases n3 c with h | h
                    · exact absurd HKC.out h
                    · exact h
                  obtain ⟨wz, hwz⟩ : ∃ wz, (((w3.drew.setCell ⟨db, 2, none⟩ (.bool true)).setCell ⟨db, 0, none⟩ (.slice none 0 0)).setCell ⟨db, 1, none⟩ (.slice none 0 0)) = wz := ⟨_, rfl⟩
                  have hmz : Mod (fun b => b = db) w3 wz := by
                    rw [← hwz]
                    exact ((((Mod.refl (fun b => b = db) w3).drew).setCell (p := ⟨db, 2, none⟩) (fun _ => rfl) _).setCell (p := ⟨db, 0, none⟩) (fun _ => rfl) _).setCell (p := ⟨db, 1, none⟩) (fun _ => rfl) _
                  have hbz : wz.heap[db]? = some (.cells #[.slice none 0 0, .slice none 0 0, .bool true] rDrive (0, 0)) := by
                    rw [← hwz]
                    exact blk_set (blk_set (blk_set (w := w3.drew) hdb 2 _) 0 _) 1 _
                  obtain ⟨hTz, hkz⟩ := hstep wz hmz hbz
                  have hle : loseM m i = m.setD i DM.lose := by unfold loseM; rw [if_pos (by omega)]; rfl
                  have HR := Lib.hid (show SwI w.heap.size K W pb vb m j (.int .i64 0) (.int .i64 0) (((w3.drew.setCell ⟨db, 2, none⟩ (.bool true)).setCell ⟨db, 0, none⟩ (.slice none 0 0)).setCell ⟨db, 1, none⟩ (.slice none 0 0)) from by
                    rw [hwz]
                    exact ⟨0, m.setD i DM.lose, rfl, rfl, by rw [hle] at hTz; exact hTz, HK3.out.trans hkz, by have := HNX.out; rw [hle] at this; exact this⟩)
                  have hsk : ∀ u, Mod (fun b => b = db) w3 u → u.cell? ⟨c, 1, none⟩ = some (.int .i64 i) ∧ u.cell? ⟨vb, 0, none⟩ = some (.slice (some ⟨ob, 0, none⟩) m.list.length cap) ∧ u.cell? ⟨ob, i, none⟩ = some (.pointer (some ⟨db, 0, none⟩)) := fun u hu =>
                    ⟨(hu.cell (p := ⟨c, 1, none⟩) (Nat.lt_of_lt_of_le hcl HK3.out.size) (fun h => hcd h)).trans q1, (hu.cell (p := ⟨vb, 0, none⟩) lv (fun h => n1 h)).trans k0, (hu.cell (p := ⟨ob, i, none⟩) lo (fun h => n2 h)).trans k1⟩
                  have hu1 : Mod (fun b => b = db) w3 (w3.setCell ⟨db, 2, none⟩ (.bool true)).drew := ((Mod.refl (fun b => b = db) w3).setCell (p := ⟨db, 2, none⟩) (fun _ => rfl) _).drew
                  have hu2 : Mod (fun b => b = db) w3 ((w3.setCell ⟨db, 2, none⟩ (.bool true)).setCell ⟨db, 0, none⟩ (.slice none 0 0)).drew := (((Mod.refl (fun b => b = db) w3).setCell (p := ⟨db, 2, none⟩) (fun _ => rfl) _).setCell (p := ⟨db, 0, none⟩) (fun _ => rfl) _).drew
                  have hu3 : Mod (fun b => b = db) w3 (((w3.setCell ⟨db, 2, none⟩ (.bool true)).setCell ⟨db, 0, none⟩ (.slice none 0 0)).setCell ⟨db, 1, none⟩ (.slice none 0 0)).drew := ((((Mod.refl (fun b => b = db) w3).setCell (p := ⟨db, 2, none⟩) (fun _ => rfl) _).setCell (p := ⟨db, 0, none⟩) (fun _ => rfl) _).setCell (p := ⟨db, 1, none⟩) (fun _ => rfl) _).drew
                  have HS1 := Lib.hid (hsk _ hu1); have HS2 := Lib.hid (hsk _ hu2); have HS3 := Lib.hid (hsk _ hu3)
                  have HUS := Lib.hid hus
                  clear hsk hu1 hu2 hu3 hus h0f huc hu0 HT3 HK3 hwz hmz hbz hTz hkz hle hstep hdb n3
                  go_wp2_with (fail)
                  refine HUS.out.mono ?_
                  rintro e w4 ⟨rfl, rfl⟩
                  go_wp2
                  go_region_held3 (fun w' => w'.cell? ⟨c, 1, none⟩ = some (.int .i64 i) ∧ w'.cell? ⟨vb, 0, none⟩ = some (.slice (some ⟨ob, 0, none⟩) m.list.length cap) ∧ w'.cell? ⟨ob, i, none⟩ = some (.pointer (some ⟨db, 0, none⟩))) (first | exact HS1.out | exact HS2.out | exact HS3.out | go_keep) (fail)
                  go_wp2
                  go_meet
                  exact HR.out
                · have h0i : ¬ ((m.use dr : Nat) : Int) = 0 := by omega
                  have hlm := (h0f hu0).2
                  generalize m.use dr = u at *
                  have HUS := Lib.hid hus
                  have HR := Lib.hid (show SwI w.heap.size K W pb vb m j (.int .i64 0) (.int .i64 0) w3 from ⟨0, _, rfl, rfl, by have := HT3.out; rw [hlm] at this; exact this, HK3.out, ⟨HFW.out.more (Nat.le_succ j), rfl⟩⟩)
                  clear hus h0f huc hu0 hlm HT3 HK3
                  go_wp2_with (fail)
                  refine HUS.out.mono ?_
                  rintro e w4 ⟨rfl, rfl⟩
                  go_wp2
                  go_meet
                  exact HR.out
            by_cases w6 : wh = 6
            · subst w6
              as_aux_lemma =>
                have hfu := T_fuse HT.out po hps
                have HFU := Lib.hid hfu
                clear hfu hd hTd hcalm hDu hkeep
                have HPS := Lib.hid hps
                clear hps
                go_wp2_with (fail)
                refine HFU.out.mono ?_
                rintro e w3 ⟨rfl, hT3, hk3⟩
                obtain ⟨q1, q2, q3, q4⟩ := HKP.out w3 hk3
                obtain ⟨ao2, cap2, hvb, hKv, _, hstep⟩ := V_head hT3
                have hcv : c ≠ vb := fun e => hKv (e ▸ HKC.out)
                have v1 : w3.cell? ⟨vb, 1, none⟩ = some (.int .i64 m.fuse) := blk_cell hvb rfl
                have f1 := blk_free hvb 1
                have hbA := blk_set hvb 1 (.int .i64 po)
                have hmA := Mod.set1 (w := w3) vb 1 (.int .i64 po)
                by_cases hpo : po < 0
                · have hbB := blk_set hbA 1 (.int .i64 0)
                  have hmB := hmA.trans (Mod.set1 (w := w3.setCell ⟨vb, 1, none⟩ (.int .i64 po)) vb 1 (.int .i64 0))
                  obtain ⟨hTz, hkz⟩ := hstep _ 0 hmB hbB (by decide) (by decide)
                  rw [if_neg (show ¬ 0 ≤ po by omega)] at hTz
                  have HR := Lib.hid (show SwI w.heap.size K W pb vb m j (.int .i64 0) (.int .i64 0) ((w3.setCell ⟨vb, 1, none⟩ (.int .i64 po)).setCell ⟨vb, 1, none⟩ (.int .i64 0)) from ⟨0, _, rfl, rfl, hTz, hk3.trans hkz, ⟨HFW.out.more (Nat.le_succ j), rfl⟩⟩)
                  have hvl := blk_lt hvb
                  clear hT3 hk3 hvb hstep hbA hmA hbB hmB hTz hkz HFU hKv
                  go_wp2
                  go_meet
                  exact HR.out
                · obtain ⟨hTz, hkz⟩ := hstep _ po hmA hbA (by omega) HPS.out
                  rw [if_pos (show 0 ≤ po by omega)] at hTz
                  have HR := Lib.hid (show SwI w.heap.size K W pb vb m j (.int .i64 0) (.int .i64 0) (w3.setCell ⟨vb, 1, none⟩ (.int .i64 po)) from ⟨0, _, rfl, rfl, hTz, hk3.trans hkz, ⟨HFW.out.more (Nat.le_succ j), rfl⟩⟩)
                  have hvl := blk_lt hvb
                  clear hT3 hk3 hvb hstep hbA hmA hTz hkz HFU hKv
                  go_wp2
                  go_meet
                  exact HR.out
            have b0 : (wh == 0) = false := by simp [w0]
            have b1 : (wh == 1) = false := by simp [w1]
            have b2 : (wh == 2) = false := by simp [w2]
            have b3 : (wh == 3) = false := by simp [w3]
            have b4 : (wh == 4) = false := by simp [w4]
            have b5 : (wh == 5) = false := by simp [w5]
            have b6 : (wh == 6) = false := by simp [w6]
            have HR := Lib.hid (show SwI w.heap.size K W pb vb m j (.int .i64 0) (.int .i64 0) W from ⟨0, m, rfl, rfl, HT.out, Mod.refl _ _, ⟨HFW.out.more (Nat.le_succ j), rfl⟩⟩)
            clear hkeep hd hTd hcalm hDu
            as_aux_lemma =>
              go_wp2
              go_meet
              exact HR.out
          case rest =>
            obtain ⟨n, m', rfl, rfl, hT, hk, hnx⟩ := hcut
            as_aux_lemma =>
              have hcalm : m'.calm := hnx.few.calm (by omega)
              have hcb := blk_mod hk HCW.out (fun h => h.2 HKC.out)
              have hkeep : ∀ u, Below wc.heap.size wc u → (fun u : World => u.cell? ⟨c, 1, none⟩ = some (.int .i64 dr) ∧ u.cell? ⟨c, 2, none⟩ = some (.int .i64 st) ∧ u.cell? ⟨c, 3, none⟩ = some (.int .i64 po)) u := fun u hu => by
                have hb := (hu.block _ (blk_lt hcb)).trans hcb
                exact ⟨blk_cell hb rfl, blk_cell hb rfl, blk_cell hb rfl⟩
              have hd : Below wc.heap.size wc wc.drew := (Below.refl _ _).drew
              have h27 := TR.keep hd hkeep (T_lasts (hT.below hd) dr st po)
              have h41 := fun u (hu : Below wc.heap.size wc u) => TR.keep hu hkeep (V_lasts (hT.below hu) dr st po)
              have h25 := fun u (hu : Below wc.heap.size wc u) => HeldV.keep hu hkeep (T_held (hT.below hu) hcalm dr)
              have h43 := fun u (hu : Below wc.heap.size wc u) => HeldV.keep hu hkeep (V_held (hT.below hu) hcalm dr)
              have hhl := held_len hT dr
              have h42 : ∀ u va vb2, Below wc.heap.size wc u → Prs u (fun _ => True) va (m'.held dr) → Prs u (fun _ => True) vb2 (m'.held dr) → Calls Try.prog 42 #[va, vb2] u fun e w' => e = .returned (.bool true) ∧ Below wc.heap.size wc w' ∧ (w'.cell? ⟨c, 1, none⟩ = some (.int .i64 dr) ∧ w'.cell? ⟨c, 2, none⟩ = some (.int .i64 st) ∧ w'.cell? ⟨c, 3, none⟩ = some (.int .i64 po)) := fun u va vb2 hu ha hb => by
                refine (held_same ha hb (by omega)).mono ?_
                rintro e w' ⟨rfl, q, rfl⟩
                have hb' := below_drewN hu q
                exact ⟨rfl, hb', hkeep _ hb'⟩
              have hfu : ∀ u, Below wc.heap.size wc u → Calls Try.prog 23 #[.pointer (some ⟨pb, 0, none⟩), .int .i64 dr] u fun e w' => e = .returned (.int .i64 (m'.free dr)) ∧ Below wc.heap.size wc w' := fun u hu => by
                refine (T_free (hT.below hu) hcalm dr).mono ?_
                rintro e w' ⟨rfl, hb⟩
                exact ⟨rfl, hu.trans (hb.mono hu.size)⟩
              have hend : ∀ u, Below wc.heap.size wc u → PlaysI w pb vb m' u ∧ FewT m' (j + 1) ∧ m'.list.length ≤ 12 := fun u hu =>
                ⟨⟨(hT.below hu).less (fun _ h => h.elim), (HMW.out.trans (hk.mono (fun b _ h => h.1))).trans (Mod.of_below _ hu)⟩, hnx.few, by rw [hnx.len]; exact hml⟩
              have hheld : ∀ i : Nat, dr = i → i < m'.list.length → m'.free dr = ((m'.get i).cap : Int) - ((m'.held dr).length : Int) ∧ (m'.held dr).length ≤ (m'.get i).cap := fun i e hi => by
                subst e
                unfold PM.free PM.held
                rw [if_pos (by omega), if_pos (by omega)]
                exact ⟨rfl, held_le _⟩
              obtain ⟨hl, hhl2⟩ : ∃ hl, m'.held dr = hl := ⟨_, rfl⟩
              rw [hhl2] at h25 h43 hhl h42 hheld
              obtain ⟨lb, hlb⟩ : ∃ lb, m'.lasts dr st po = lb := ⟨_, rfl⟩
              rw [hlb] at h27 h41
              obtain ⟨y1, y2, y3⟩ := hkeep wc (Below.refl _ _)
              have H27 := Lib.hid h27; have H41 := Lib.hid h41; have H25 := Lib.hid h25; have H43 := Lib.hid h43; have H42 := Lib.hid h42; have HFR := Lib.hid hfu; have HEND := Lib.hid hend; have HHELD := Lib.hid hheld; have HT2 := Lib.hid hT; have HKEEP := Lib.hid hkeep
              clear h27 h41 h25 h43 h42 hfu hend hheld hT hkeep hd hcb hk hnx hhl2 hlb
              have hbb : (lb != lb) = false := by cases lb <;> rfl
              have hnn : ((n : Int) != (n : Int)) = false := by simp
              go_wp2
              go_region_held3 (fun w' => w'.cell? ⟨c, 1, none⟩ = some (.int .i64 dr) ∧ w'.cell? ⟨c, 2, none⟩ = some (.int .i64 st) ∧ w'.cell? ⟨c, 3, none⟩ = some (.int .i64 po)) (go_keep) ((first | (go_at_call 27; refine H27.out.mono ?_; rintro e w3 ⟨rfl, hb3, q1, q2, q3⟩) | (go_at_call 41; refine (H41.out _ hb3).mono ?_; rintro e w4 ⟨rfl, hb4, p1, p2, p3⟩) | (go_at_call 25; refine (H25.out _ hb4).mono ?_; rintro e w5 ⟨_, ⟨a5, c5, rfl⟩, rfl, hp5, hx5, hb5, r1, r2, r3⟩) | (go_at_call 43; refine (H43.out _ hb5).mono ?_; rintro e w6 ⟨_, ⟨a6, c6, rfl⟩, rfl, hp6, hx6, hb6, s1, s2, s3⟩) | (go_at_call 42; refine (H42.out _ _ _ hb6 (Prs.below hp5 hx6) hp6).mono ?_; rintro e w7 ⟨rfl, hb7, t1, t2, t3⟩)))
              have HB7 := Lib.hid hb7
              have hT7 := HT2.out.below hb7
              have hus := V_use hT7 dr
              have h0f := V_free0 hT7 dr
              have huc := use_cases m' dr
              clear hb3 hb4 hb5 hb6 hb7 hp5 hp6 hx5 hx6 q1 q2 q3 p1 p2 p3 r1 r2 r3 s1 s2 s3 H27 H41 H25 H42
              by_cases hu0 : m'.use dr = 0
              · rw [hu0] at hus
                obtain ⟨i, hi, him⟩ : ∃ i : Nat, dr = i ∧ i < m'.list.length := by
                  rcases huc with h1 | h1 | ⟨_, i, h1, h2, _⟩
                  · omega
                  · omega
                  · exact ⟨i, h1, h2⟩
                subst hi
                obtain ⟨hfr, hhc⟩ := HHELD.out i rfl him
                obtain ⟨ob, cap, db, sa, sc, k0, k1, k2, hcp, lv, lo, ld, _⟩ := V_cells hT7 i him
                generalize (m'.get i).cap = cp at *
                have hii : (i : Int) < (m'.list.length : Int) := by omega
                have hsub : IntKind.i64.wrap ((cp : Int) - (hl.length : Int)) = (cp : Int) - (hl.length : Int) := IntWalk.i64_in _ (by omega)
                have hsn : (0 : Int) ≤ (cp : Int) - (hl.length : Int) := by omega
                have hd7 : Below w7.heap.size w7 w7.drew := (Below.refl _ _).drew
                have hk7 : ∀ u, Below w7.heap.size w7 u → u.cell? ⟨c, 1, none⟩ = some (.int .i64 i) ∧ u.cell? ⟨vb, 0, none⟩ = some (.slice (some ⟨ob, 0, none⟩) m'.list.length cap) ∧ u.cell? ⟨ob, i, none⟩ = some (.pointer (some ⟨db, 0, none⟩)) ∧ u.cell? ⟨db, 0, none⟩ = some (.slice sa cp sc) := fun u hu =>
                  ⟨(hu.cell (p := ⟨c, 1, none⟩) (World.block_lt_of_cell? w7 _ t1)).trans t1, (hu.cell (p := ⟨vb, 0, none⟩) lv).trans k0, (hu.cell (p := ⟨ob, i, none⟩) lo).trans k1, (hu.cell (p := ⟨db, 0, none⟩) ld).trans k2⟩
                have h43b : Calls Try.prog 43 #[.pointer (some ⟨vb, 0, none⟩), .int .i64 i] w7.drew fun e w' => ∃ v, (∃ a c, v = Value.slice a hl.length c) ∧ e = .returned v ∧ Below w7.heap.size w7 w' ∧ (w'.cell? ⟨c, 1, none⟩ = some (.int .i64 i) ∧ w'.cell? ⟨vb, 0, none⟩ = some (.slice (some ⟨ob, 0, none⟩) m'.list.length cap) ∧ w'.cell? ⟨ob, i, none⟩ = some (.pointer (some ⟨db, 0, none⟩)) ∧ w'.cell? ⟨db, 0, none⟩ = some (.slice sa cp sc)) := by
                  refine (H43.out w7.drew (HB7.out.trans (hd7.mono HB7.out.size))).mono ?_
                  rintro e w' ⟨v, hv, rfl, _, hx, _, _⟩
                  have hx' := hd7.trans hx
                  exact ⟨v, hv, rfl, hx', hk7 _ hx'⟩
                have H43B := Lib.hid h43b; have HUS := Lib.hid hus; have HFRE := Lib.hid hfr
                have hfree : ∀ u, Below w7.heap.size w7 u → Calls Try.prog 23 #[.pointer (some ⟨pb, 0, none⟩), .int .i64 i] u fun e w' => e = .returned (.int .i64 ((cp : Int) - (hl.length : Int))) ∧ Below wc.heap.size wc w' := fun u hu => by
                  have := HFR.out u (HB7.out.trans (hu.mono HB7.out.size))
                  rw [HFRE.out] at this
                  exact this
                have HFREE := Lib.hid hfree
                have hneq : ((cp : Int) - (hl.length : Int) != (cp : Int) - (hl.length : Int)) = false := by simp
                clear hfr h43b hk7 hd7 hT7 h0f huc hu0 hfree hus
                go_wp2_with (fail)
                refine HUS.out.mono ?_
                rintro e w8 ⟨rfl, rfl⟩
                go_wp2
                go_region_held3 (fun w' => w'.cell? ⟨c, 1, none⟩ = some (.int .i64 i) ∧ w'.cell? ⟨vb, 0, none⟩ = some (.slice (some ⟨ob, 0, none⟩) m'.list.length cap) ∧ w'.cell? ⟨ob, i, none⟩ = some (.pointer (some ⟨db, 0, none⟩)) ∧ w'.cell? ⟨db, 0, none⟩ = some (.slice sa cp sc)) (go_keep) ((go_at_call 43; refine H43B.out.mono ?_; rintro e w8 ⟨_, ⟨a8, c8, rfl⟩, rfl, hb8, v1, v2, v3, v4⟩))
                have HB8 := Lib.hid hb8
                clear hb8 v2 v3 v4
                go_wp2_with (fail)
                refine (HFREE.out _ HB8.out).mono ?_
                rintro e w9 ⟨rfl, hb9⟩
                have HR := Lib.hid (HEND.out _ hb9)
                clear hb9
                go_wp2
                go_roundg (acts.length - (j + 1))
                case measure => omega
                case rel => exact ⟨j + 1, m', by omega, by go_num, HR.out.1, HR.out.2.1, HR.out.2.2⟩
              · have h0i : ¬ ((m'.use dr : Nat) : Int) = 0 := by omega
                have hf0 := (h0f hu0).1
                have hfree := HFR.out w7 HB7.out
                rw [hf0] at hfree
                generalize m'.use dr = uu at *
                have HUS := Lib.hid hus; have HFREE := Lib.hid hfree
                clear hus h0f huc hu0 hf0 hfree hT7
                go_wp2_with (fail)
                refine HUS.out.mono ?_
                rintro e w8 ⟨rfl, rfl⟩
                go_wp2_with (fail)
                refine HFREE.out.mono ?_
                rintro e w9 ⟨rfl, hb9⟩
                have HR := Lib.hid (HEND.out _ hb9)
                clear hb9
                go_wp2
                go_roundg (acts.length - (j + 1))
                case measure => omega
                case rel => exact ⟨j + 1, m', by omega, by go_num, HR.out.1, HR.out.2.1, HR.out.2.2⟩
      · have hjl : ¬ (j : Int) < (acts.length : Int) := by omega
        as_aux_lemma =>
          obtain ⟨ao2, cap2, hvb, _, _, _⟩ := V_head hT
          have hvl := blk_lt hvb
          have v0 : wr.cell? ⟨vb, 0, none⟩ = some (.slice ao2 m.list.length cap2) := blk_cell hvb rfl
          have hd : Below wr.heap.size wr wr.drew := (Below.refl _ _).drew
          have h22 := (answers08 wr.drew).mono (R' := fun e w' => e = .returned (.bool true) ∧ Below wr.heap.size wr w' ∧ w'.cell? ⟨vb, 0, none⟩ = some (.slice ao2 m.list.length cap2)) (by
            rintro e w' ⟨rfl, hb⟩
            have hb' := hd.trans hb
            exact ⟨rfl, hb', (hb'.cell (p := ⟨vb, 0, none⟩) hvl).trans v0⟩)
          have h31 : ∀ u, Below wr.heap.size wr u → Calls Try.prog 31 #[.pointer (some ⟨pb, 0, none⟩)] u fun e w' => e = .returned (.int .i64 m.list.length) ∧ u = w' := fun u hu => T_len (hT.below hu)
          have hwr : Below w.heap.size w wr := hm.below (fun k hk h => by have h' : w.heap.size ≤ k := h; omega)
          have H22 := Lib.hid h22; have H31 := Lib.hid h31; have HWR := Lib.hid hwr
          clear h22 h31 hT hm hwr hvb hd hfew hml
          go_wp2
          go_region_held3 (fun w' => w'.cell? ⟨vb, 0, none⟩ = some (.slice ao2 m.list.length cap2)) (go_keep) ((first | (go_at_call 22; refine H22.out.mono ?_; rintro e w3 ⟨rfl, hb3, q0⟩) | (go_at_call 31; refine (H31.out _ hb3).mono ?_; rintro e w4 ⟨rfl, rfl⟩)))
          all_goals
            have HB3 := Lib.hid (HWR.out.trans (hb3.mono HWR.out.size))
            clear hb3 q0
            go_wp2
            go_ret
            exact ⟨rfl, HB3.out⟩
  case first =>
    go_wp2_with (fail)
    go_loopw [7] (fun i wr => ∃ j : Nat, j ≤ cl.length ∧ j ≤ 14 ∧ i = .int .i64 j ∧ PlaysI w pb vb (capsM cl j) wr) (fun i _ => 14 - (intOf i).toNat)
    case atStart => exact ⟨0, by omega, by omega, rfl, HI.out⟩
    case round =>
      obtain ⟨j, hj, hj14, rfl, hT, hm⟩ := hrel
      have hlen := capsM_len cl j
      by_cases hlt : j < cl.length ∧ j < 14
      · obtain ⟨hl1, hl2⟩ := hlt
        have hbs : Bs w (fun b => b < w.heap.size) (.slice ca cl.length cc) cl := by
          rcases HC.out with h | ⟨h, _⟩
          · exact h
          · rw [h] at hl1; exact absurd hl1 (Nat.not_lt_zero _)
        obtain ⟨cb, co, cc', e1, _, hcb, hcc⟩ := hbs.cellAt (by omega)
        injection e1 with e1 _ e3
        subst e1
        subst e3
        have x1 := (hm.cell (p := ⟨cb, co + j, none⟩) hcb (fun h => by have h' : w.heap.size ≤ cb := h; omega)).trans (hcc j hl1)
        have hx := (cl.getD j 0).toNat_lt
        have hnx : capsM cl (j + 1) = if j < 12 then (capsM cl j).add (((cl.getD j 0).toNat % 9 : Nat) : Int) else capsM cl j := rfl
        generalize (cl.getD j 0).toNat = x at *
        obtain ⟨y, hy⟩ : ∃ y, x % 9 = y := ⟨_, rfl⟩
        rw [hy] at hnx
        have hyi : (x : Int) % 9 = (y : Int) := by omega
        have hyt : (x : Int).tmod 9 = (y : Int) := by rw [Int.tmod_eq_emod_of_nonneg (by omega), hyi]
        have hyw : IntKind.i64.wrap (y : Int) = (y : Int) := IntWalk.i64_in _ (by omega)
        have hj1 : (j : Int) < (cl.length : Int) := by omega
        have hj2 : (j : Int) < 14 := by omega
        clear hbs hcc hy
        by_cases h12 : j < 12
        · rw [if_pos h12] at hnx
          have hadd := T_add hT (y : Int) (by rw [hlen]; omega)
          rw [show (capsM cl j).list.length = j by rw [hlen]; omega] at hadd
          have hm2l : (capsM cl j).list.length < 12 := by rw [hlen]; omega
          have hj12 : (j : Int) < 12 := by omega
          rw [← hnx] at hadd
          obtain ⟨m1, hm1⟩ : ∃ m1, capsM cl (j + 1) = m1 := ⟨_, rfl⟩
          rw [hm1] at hadd hnx
          have HM1 := Lib.hid hm1
          clear hm1
          generalize capsM cl j = m at *
          have HADD := Lib.hid hadd; have HM := Lib.hid hm; have HNX := Lib.hid hnx
          clear hadd hT hnx hm hlen
          go_wp2_with (fail)
          refine HADD.out.mono ?_
          rintro e w2 ⟨rfl, hT2, hk2⟩
          obtain ⟨ao, cap, xs, hvb, hown, hnv, hstep⟩ := V_add hT2 hm2l
          have x2 := (hk2.cell (p := ⟨cb, co + j, none⟩) (Nat.lt_of_lt_of_le hcb HM.out.size) (fun h => by have h' := h.1; have h'' : w.heap.size ≤ cb := h'; omega)).trans x1
          have v0 : w2.cell? ⟨vb, 0, none⟩ = some (.slice ao m.list.length cap) := blk_cell hvb rfl
          have vf := blk_free hvb 0
          have hvl := blk_lt hvb
          have HVB := Lib.hid hvb; have HN := Lib.hid hnv; have HST := Lib.hid hstep
          have HM2 := Lib.hid (HM.out.trans (hk2.mono (fun b _ h => h.1)))
          have HO := Lib.hid hown
          have hod := own_drew hown
          clear hT2 hk2 hvb hnv hstep hown HADD HM
          go_wp2
          go_region_law (first | (refine step_app_new rfl _ _ _ rfl E51 0 _ 1 (by assumption) rfl rfl rfl (by intro u hu; simp at hu; subst hu; rfl) (by omega) (by decide) (by omega) ?_; intro v4 w4 hown4 hg4 _; have hD1 := (hbl.block vb hvl).trans HVB.out; have hD2 := (hg4.by_.block vb (blk_lt hD1) (Ne.symm HN.out)).trans hD1; have z1 : w4.cell? ⟨vb, 0, none⟩ = some _ := blk_cell hD2 rfl; have z2 := blk_free hD2 0; obtain ⟨oa2, on2, oc2, rfl⟩ := own_shape hown4) | (go_simp; go_at_call 32; refine (rnew_made _ _).mono ?_; rintro e w3 ⟨db, rfl, hdb, hbl, hdr⟩; have hod1 := own_below hod hbl; clear hod; have h1' := (hbl.cell (p := ⟨vb, 0, none⟩) (by simpa using hvl)).trans v0; have hdb1 := World.block_lt_of_cell? w3 _ h1'; simp only at hdb1))
          all_goals
            have hon2 := own_len hown4
            subst hon2
            have hdr' : DriveAt w3 (Ext (fun _ => False) w2 w3) db (DM.new (clampN y)) := hdr
            have hb' : Below w2.heap.size w2 w3 := ⟨hbl.os, hbl.tape, hbl.output, hbl.size, hbl.block⟩
            have hmA : Mod (fun b => b = vb ∨ (Value.slice ao m.list.length cap).ownBlock = some b) w3 (w4.setCell ⟨vb, 0, none⟩ (.slice oa2 (m.list.length + 1) oc2)) :=
              ((Mod.refl _ w3).grown hg4.by_ (fun k hk _ => .inr hk)).setCell (p := ⟨vb, 0, none⟩) (fun _ => .inl rfl) _
            have hne2 : ∀ g, (Value.slice oa2 (m.list.length + 1) oc2).ownBlock = some g → ¬ g = vb := by
              intro g hg e
              subst e
              rcases hg4.blk with h | ⟨g', h, h'⟩
              · exact HN.out (h ▸ hg)
              · rw [h] at hg; injection hg with hg; have := hb'.size; omega
            have hown5 := own_mod hown4 ((Mod.refl (fun b => b = vb) w4).setCell (p := ⟨vb, 0, none⟩) (fun _ => rfl) (.slice oa2 (m.list.length + 1) oc2)) hne2
            have hD3 := blk_set hD2 0 (.slice oa2 (m.list.length + 1) oc2)
            have hadp : AddP w2 vb (.slice ao m.list.length cap) m.fuse m.down (clampN y) m.list.length xs (w4.setCell ⟨vb, 0, none⟩ (.slice oa2 (m.list.length + 1) oc2)) := ⟨_, _, _, hb', hdr', hown5, hg4.blk, hmA, hD3⟩
            have hT5 := HST.out (y : Int) _ hadp
            have HR := Lib.hid (show PlaysI w pb vb m1 (w4.setCell ⟨vb, 0, none⟩ (.slice oa2 (m.list.length + 1) oc2)) from ⟨by have := hT5.1; rw [← HNX.out] at this; exact this, HM2.out.trans (hT5.2.mono (fun b _ h => h.1))⟩)
            clear hown5 hmA hD3 hne2 hb' hdr hdr' hown4 hg4 hbl hod1 h1' hD1 hD2 hadp hT5
            go_wp2
            go_roundw
            case rel => exact ⟨j + 1, by omega, by omega, by go_num, by rw [HM1.out]; exact HR.out⟩
            case measure => simp [intOf]; omega
        · rw [if_neg h12] at hnx
          have hadd := T_add_full hT (y : Int) (by rw [hlen]; omega)
          have hj12 : ¬ (j : Int) < 12 := by omega
          have HR := Lib.hid (show PlaysI w pb vb (capsM cl (j + 1)) wr from by rw [hnx]; exact ⟨hT, hm⟩)
          have HADD := Lib.hid hadd
          clear hadd hT hnx hm hlen
          go_wp2_with (fail)
          refine HADD.out.mono ?_
          rintro e w2 ⟨rfl, rfl⟩
          clear HADD
          go_wp2
          go_roundw
          case rel => exact ⟨j + 1, by omega, by omega, by go_num, HR.out⟩
          case measure => simp [intOf]; omega
      · have HR := Lib.hid (show ∃ m, PlaysI w pb vb m wr ∧ FewT m 0 ∧ m.list.length ≤ 12 from ⟨_, ⟨hT, hm⟩, capsM_few cl j, by rw [hlen]; omega⟩)
        clear hT hm hlen
        by_cases hl1 : j < cl.length
        · have hl2 : ¬ j < 14 := fun h => hlt ⟨hl1, h⟩
          clear hlt
          go_wp2
          go_meet
          exact HR.out
        · clear hlt
          go_wp2
          go_meet
          exact HR.out
end Go.Proofs.Fr

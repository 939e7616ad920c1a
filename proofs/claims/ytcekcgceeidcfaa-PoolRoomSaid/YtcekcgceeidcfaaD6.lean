import Derived.Test.YtcekcgceeidcfaaD5
namespace Go.Proofs.Fl
open Go.RowKit

def DM.cap (d : DM) : Nat := d.lasts.length
def DM.get (d : DM) (i : Nat) : Bytes := lastW d.loose i d.loose.length (d.lasts.getD i [])
def DM.put (d : DM) (i : Nat) (l : Bytes) : DM := { d with loose := d.loose ++ [(i, l)] }
def DM.keep (sel : Nat → Bool) (d : DM) : DM := { d with lasts := runW sel d.loose (0, []) d.loose.length d.lasts, loose := [] }
def DM.lose : DM := ⟨[], [], true⟩
def DM.new (n : Nat) : DM := ⟨List.replicate n [], [], false⟩

/-- What a call on a drive leaves. -/
structure DStep (w : World) (F : Nat → Prop) (db : Nat) (d' : DM) (w' : World) : Prop where
  mod : Mod F w w'
  at_ : DriveAt w' (Ext F w w') db d'

theorem getD_set {α : Type} (l : List α) (i j : Nat) (x z : α) : (l.set i x).getD j z = if i = j ∧ j < l.length then x else l.getD j z := by
  simp only [List.getD_eq_getElem?_getD, List.getElem?_set]
  by_cases h : i = j
  · subst h
    by_cases h2 : i < l.length
    · simp [h2]
    · simp [h2]
  · simp [h]
theorem getD_append_one {α : Type} (l : List α) (x z : α) (j : Nat) (h : j < l.length + 1) : (l ++ [x]).getD j z = if j = l.length then x else l.getD j z := by
  simp only [List.getD_eq_getElem?_getD]
  by_cases hj : j = l.length
  · subst hj; simp
  · rw [List.getElem?_append_left (by omega), if_neg hj]

theorem drive_cap {w : World} {F : Nat → Prop} {db : Nat} {d : DM} (h : DriveAt w F db d) : Calls Try.prog 67 #[.pointer (some ⟨db, 0, none⟩)] w fun e w' => e = .returned (.int .i64 d.cap) ∧ w = w' := by
  rcases h.is with ⟨h1, h2, h3, h4, h5⟩ | ⟨h1, lb, ov, lvs, ovs, hl⟩
  · refine (cap_any db 0 0 none true w (blk_cell h5 rfl) (blk_cell h5 rfl)).mono ?_
    rintro e w' ⟨rfl, rfl⟩
    simp [DM.cap, h2]
  · refine (cap_any db _ _ _ false w (blk_cell hl.blk rfl) (blk_cell hl.blk rfl)).mono ?_
    rintro e w' ⟨rfl, rfl⟩
    simp [DM.cap]
theorem drive_lost {w : World} {F : Nat → Prop} {db : Nat} {d : DM} (h : DriveAt w F db d) : Calls Try.prog 98 #[.pointer (some ⟨db, 0, none⟩)] w fun e w' => e = .returned (.bool d.lost) ∧ w = w' := by
  rcases h.is with ⟨h1, h2, h3, h4, h5⟩ | ⟨h1, lb, ov, lvs, ovs, hl⟩
  · rw [h1]; exact lost_any db true w (blk_cell h5 rfl)
  · rw [h1]; exact lost_any db false w (blk_cell hl.blk rfl)

theorem Live.oao {w : World} {F : Nat → Prop} {db lb : Nat} {ov : Value} {lvs : List Value} {ovs : List (Nat × Value)} {d : DM} (h : Live w F db lb ov lvs ovs d) :
    ∃ ao cap ob, ov = .slice ao d.loose.length cap ∧ (0 < d.loose.length → ao = some ⟨ob, 0, none⟩ ∧ ov.ownBlock = some ob) := by
  rcases h.own.2 with ⟨h1, h2⟩ | ⟨g, cap, cur, h1, _⟩
  · exact ⟨none, 0, 0, by rw [h1, h2], by omega⟩
  · exact ⟨_, cap, g, h1, fun _ => ⟨rfl, by rw [h1]; rfl⟩⟩
theorem Live.ocell {w : World} {F : Nat → Prop} {db lb ob : Nat} {ov : Value} {lvs : List Value} {ovs : List (Nat × Value)} {d : DM} (h : Live w F db lb ov lvs ovs d) (ho : ov.ownBlock = some ob) (j : Nat) (hj : j < d.loose.length) :
    w.cell? ⟨ob, j * 2, none⟩ = some (.int .i64 ((ovs.getD j (0, undef)).1 : Int)) ∧ w.cell? ⟨ob, j * 2 + 1, none⟩ = some (ovs.getD j (0, undef)).2 := by
  have ha : ∀ i, (⟨ob, 0, none⟩ : Addr).add i = ⟨ob, i, none⟩ := fun i => by unfold Addr.add; split <;> simp_all
  have hc := wcells_at ovs j (by rw [h.olen]; exact hj)
  have c1 := h.own.cells ho _ _ hc.1
  have c2 := h.own.cells ho _ _ hc.2
  rw [ha] at c1 c2
  exact ⟨c1, c2⟩

theorem drive_read {w : World} {F : Nat → Prop} {db : Nat} {d : DM} (h : DriveAt w F db d) (i : Nat) (hi : i < d.cap) (hk : d.loose.length ≤ 1000000000) :
    Calls Try.prog 75 #[.pointer (some ⟨db, 0, none⟩), .int .i64 i] w fun e w' => ∃ v', e = .returned (.tuple #[v', .int .i64 0]) ∧ Bs w' (Fresh w) v' (d.get i) ∧ Below w.heap.size w w' := by
  unfold DM.cap at hi
  rcases h.is with ⟨h1, h2, h3, h4, h5⟩ | ⟨h1, lb, ov, lvs, ovs, hl⟩
  · rw [h2] at hi; simp at hi
  · obtain ⟨ao, cap, ob, hov, hao⟩ := hl.oao
    refine read_walk db lb ob d.lasts.length cap d.lasts.length i ao (lvs.getD i undef) (d.lasts.getD i []) _ d.loose (fun j => (ovs.getD j (0, undef)).2) w (blk_cell hl.blk rfl) (by rw [← hov]; exact blk_cell hl.blk rfl) (blk_cell hl.blk rfl) hi
      (blk_cell hl.row (by simp [List.getD_eq_getElem?_getD, hl.len, hi])) (hl.at_ i hi).1 (by have := (hl.at_ i hi).2; omega) (fun j hj => ?_) hk (fun h0 => (hao h0).1)
    obtain ⟨x1, x2, x3, x4⟩ := hl.oat j hj
    obtain ⟨c1, c2⟩ := hl.ocell (hao (by omega)).2 j hj
    exact ⟨x3, by omega, by rw [← x1]; exact c1, c2⟩
theorem drive_lasts {w : World} {F : Nat → Prop} {db : Nat} {d : DM} (h : DriveAt w F db d) (i : Nat) (hi : i < d.cap) :
    Calls Try.prog 71 #[.pointer (some ⟨db, 0, none⟩), .int .i64 i] w fun e w' => ∃ v', e = .returned (.tuple #[v', .int .i64 0]) ∧ Bs w' (Fresh w) v' (d.lasts.getD i []) ∧ Below w.heap.size w w' := by
  unfold DM.cap at hi
  rcases h.is with ⟨h1, h2, h3, h4, h5⟩ | ⟨h1, lb, ov, lvs, ovs, hl⟩
  · rw [h2] at hi; simp at hi
  · exact lasts_ok db lb d.lasts.length d.lasts.length i (lvs.getD i undef) (d.lasts.getD i []) _ w (blk_cell hl.blk rfl) (blk_cell hl.blk rfl) hi
      (blk_cell hl.row (by simp [List.getD_eq_getElem?_getD, hl.len, hi])) (hl.at_ i hi).1 (by have := (hl.at_ i hi).2; omega)

theorem drive_put {w : World} {F S : Nat → Prop} {db : Nat} {d : DM} (h : DriveAt w F db d) (i : Nat) (hi : i < d.cap) (hk : d.loose.length ≤ 1000000000) {v : Value} {l : Bytes} (hB : Bs w S v l) (hl64 : l.length ≤ 64) :
    Calls Try.prog 100 #[.pointer (some ⟨db, 0, none⟩), .int .i64 i, v] w fun e w' => e = .returned (.int .i64 0) ∧ DStep w F db (d.put i l) w' := by
  unfold DM.cap at hi
  rcases h.is with ⟨h1, h2, h3, h4, h5⟩ | ⟨h1, lb, ov, lvs, ovs, hl⟩
  · rw [h2] at hi; simp at hi
  · refine (write_walk db _ _ i _ ov v d.loose.length (wcells ovs) l S w hl.blk hi hl.own hB hl64 hk (fun e => (hl.ownF db e).2.1 rfl)).mono ?_
    rintro e w' ⟨rfl, v1, ov', hv1, hown, hblk, hmod, hD⟩
    have hTF : ∀ b, (b = db ∨ ov.ownBlock = some b) → F b := fun b hb => by
      rcases hb with rfl | hb
      · exact hl.fdb
      · exact (hl.ownF b hb).1
    have hov' : ∀ g, ov'.ownBlock = some g → ov.ownBlock = some g ∨ (w.heap.size ≤ g ∧ g < w'.heap.size) := fun g hg => by
      rcases hblk with e | ⟨g', e, hg'⟩
      · exact .inl (e ▸ hg)
      · rw [e] at hg; injection hg with hg; subst hg
        exact .inr ⟨hg', (hown.lt _ e).2⟩
    refine ⟨rfl, ⟨hmod.mono fun k _ hk => hTF k hk, ⟨fun b hb => ?_, .inr ⟨h1, lb, ov', lvs, ovs ++ [(i, v1)], ?_⟩⟩⟩⟩
    · rcases hb with hb | hb
      · exact Nat.lt_of_lt_of_le (h.here b hb) hmod.size
      · exact hb.2
    · have him : ∀ k, k < w.heap.size → Im F db lb ov k → Im (Ext F w w') db lb ov' k := fun k hk hi' => by
        refine ⟨.inl hi'.1, hi'.2.1, hi'.2.2.1, fun e => ?_⟩
        rcases hov' k e with h | h
        · exact hi'.2.2.2 h
        · omega
      have hnT : ∀ k, Im F db lb ov k → ¬ (k = db ∨ ov.ownBlock = some k) := fun k hk h => by
        rcases h with h | h
        · exact hk.2.1 h
        · exact hk.2.2.2 h
      have hcar : ∀ {u : Value} {m : Bytes}, Bs w (Im F db lb ov) u m → Bs w' (Im (Ext F w w') db lb ov') u m := fun {u m} hu =>
        (hu.mono (T := fun k => Im F db lb ov k ∧ k < w.heap.size) fun k hk h => ⟨h, hk⟩).kept hmod (fun k _ hk => hnT k hk.1) |>.mono fun k _ hk => him k hk.2 hk.1
      have hdb := h.here db hl.fdb
      have hlb := h.here lb hl.flb
      have hnew : Bs w' (Im (Ext F w w') db lb ov') v1 l := hv1.mono fun k hk h => ⟨.inr ⟨h.1, hk⟩, by omega, by omega, h.2⟩
      exact {
        blk := hD
        row := blk_mod hmod hl.row (fun h => by
          rcases h with h | h
          · exact hl.ne h
          · exact (hl.ownF _ h).2.2 rfl)
        fdb := .inl hl.fdb
        flb := .inl hl.flb
        ne := hl.ne
        own := by
          have e : wcells (ovs ++ [(i, v1)]) = wcells ovs ++ [.int .i64 i, v1] := by simp [wcells]
          rw [e]; simpa [DM.put] using hown
        ownF := fun g hg => by
          rcases hov' g hg with h' | h'
          · exact ⟨.inl (hl.ownF g h').1, (hl.ownF g h').2⟩
          · exact ⟨.inr h', by omega, by omega⟩
        len := hl.len
        olen := by simp [DM.put, hl.olen]
        at_ := fun j hj => ⟨hcar (hl.at_ j hj).1, (hl.at_ j hj).2⟩
        oat := fun j hj => by
          have hj' : j < d.loose.length + 1 := by simpa [DM.put] using hj
          simp only [DM.put]
          rw [getD_append_one _ _ _ _ (by rw [hl.olen]; exact hj'), getD_append_one _ _ _ _ hj', hl.olen]
          by_cases e : j = d.loose.length
          · rw [if_pos e, if_pos e]; exact ⟨rfl, hi, hnew, hl64⟩
          · rw [if_neg e, if_neg e]
            obtain ⟨x1, x2, x3, x4⟩ := hl.oat j (by omega)
            exact ⟨x1, x2, hcar x3, x4⟩
        few := hl.few }
end Go.Proofs.Fl

import Derived.Test.YtcekcgceeidcfaaD6
namespace Go.Proofs.Fl
open Go.RowKit

theorem runW_rel {R : Value → Bytes → Prop} (sel : Nat → Bool) (ovs : List (Nat × Value)) (ws : List (Nat × Bytes)) (lvs : List Value) (ls : List Bytes) (hlen : lvs.length = ls.length)
    (h0 : ∀ i, i < ls.length → R (lvs.getD i undef) (ls.getD i [])) (h1 : ∀ i, i < ws.length → (ovs.getD i (0, undef)).1 = (ws.getD i (0, [])).1 ∧ R (ovs.getD i (0, undef)).2 (ws.getD i (0, [])).2) :
    ∀ k, k ≤ ws.length → ∀ i, i < ls.length → R ((runW sel ovs (0, undef) k lvs).getD i undef) ((runW sel ws (0, []) k ls).getD i []) := by
  intro k
  induction k with
  | zero => intro _ i hi; exact h0 i hi
  | succ k ih =>
    intro hk i hi
    have ih' := ih (by omega)
    simp only [runW]
    cases hs : sel k with
    | false => simpa using ih' i hi
    | true =>
      simp only [if_true]
      obtain ⟨e1, e2⟩ := h1 k (by omega)
      rw [getD_set, getD_set, e1]
      simp only [runW_length, hlen]
      by_cases hc : (ws.getD k (0, [])).1 = i ∧ i < ls.length
      · rw [if_pos hc, if_pos hc]; exact e2
      · rw [if_neg hc, if_neg hc]; exact ih' i hi

theorem keep_live {w w' : World} {F : Nat → Prop} {db lb : Nat} {ov : Value} {lvs : List Value} {ovs : List (Nat × Value)} {d : DM} (hh : ∀ b, F b → b < w.heap.size) (h : Live w F db lb ov lvs ovs d) (h1 : d.lost = false) (sel : Nat → Bool)
    (hm : Mod (fun b => b = db ∨ b = lb) w w') (hl : w'.heap[lb]? = some (.cells (runW sel ovs (0, undef) d.loose.length lvs).toArray tBytes (0, 0)))
    (hD : w'.heap[db]? = some (.cells #[.slice (some ⟨lb, 0, none⟩) d.lasts.length d.lasts.length, .slice none 0 0, .bool false] tDrive (0, 0))) : DStep w F db (d.keep sel) w' := by
  refine ⟨hm.mono fun k _ hk => ?_, ⟨fun b hb => ?_, .inr ⟨h1, lb, .slice none 0 0, runW sel ovs (0, undef) d.loose.length lvs, [], ?_⟩⟩⟩
  · rcases hk with rfl | rfl
    · exact h.fdb
    · exact h.flb
  · rcases hb with hb | hb
    · exact Nat.lt_of_lt_of_le (hh b hb) hm.size
    · exact hb.2
  · have hcar : ∀ {u : Value} {m : Bytes}, Bs w (Im F db lb ov) u m → Bs w' (Im (Ext F w w') db lb (.slice none 0 0)) u m := fun {u m} hu =>
      (hu.kept hm (fun k _ hk h' => by
        rcases h' with h' | h'
        · exact hk.2.1 h'
        · exact hk.2.2.1 h')).mono fun k _ hk => ⟨.inl hk.1, hk.2.1, hk.2.2.1, by simp [Value.ownBlock]⟩
    have hR := runW_rel (R := fun v l => Bs w' (Im (Ext F w w') db lb (.slice none 0 0)) v l ∧ l.length ≤ 64) sel ovs d.loose lvs d.lasts h.len (fun i hi => ⟨hcar (h.at_ i hi).1, (h.at_ i hi).2⟩)
      (fun i hi => ⟨(h.oat i hi).1, hcar (h.oat i hi).2.2.1, (h.oat i hi).2.2.2⟩) d.loose.length (Nat.le_refl _)
    exact {
      blk := by simpa [DM.keep] using hD
      row := hl
      fdb := .inl h.fdb
      flb := .inl h.flb
      ne := h.ne
      own := World.ownsRow_nil _ _ _ _
      ownF := fun g hg => by simp [Value.ownBlock] at hg
      len := by simp [DM.keep, h.len]
      olen := by simp [DM.keep]
      at_ := fun i hi => hR i (by simpa [DM.keep] using hi)
      oat := fun i hi => by simp [DM.keep] at hi
      few := by simpa [DM.keep] using h.few }

theorem Live.wrs {w : World} {F : Nat → Prop} {db lb ob : Nat} {ov : Value} {lvs : List Value} {ovs : List (Nat × Value)} {d : DM} (h : Live w F db lb ov lvs ovs d) (hao : 0 < d.loose.length → ov.ownBlock = some ob) :
    ∀ j, j < d.loose.length → (ovs.getD j (0, undef)).1 < d.lasts.length ∧ (∃ ao m k, (ovs.getD j (0, undef)).2 = .slice ao m k) ∧ w.cell? ⟨ob, j * 2, none⟩ = some (.int .i64 ((ovs.getD j (0, undef)).1 : Int)) ∧ w.cell? ⟨ob, j * 2 + 1, none⟩ = some (ovs.getD j (0, undef)).2 := by
  intro j hj
  obtain ⟨x1, x2, x3, x4⟩ := h.oat j hj
  obtain ⟨c1, c2⟩ := h.ocell (hao (by omega)) j hj
  obtain ⟨ao, c, e⟩ := x3.shape
  exact ⟨by rw [x1]; exact x2, ⟨ao, _, c, e⟩, c1, c2⟩
theorem Live.lbob {w : World} {F : Nat → Prop} {db lb ob : Nat} {ov : Value} {lvs : List Value} {ovs : List (Nat × Value)} {d : DM} (h : Live w F db lb ov lvs ovs d) (hao : 0 < d.loose.length → ov.ownBlock = some ob) : ∃ ob', lb ≠ ob' ∧ (0 < d.loose.length → ov.ownBlock = some ob') := by
  by_cases h0 : 0 < d.loose.length
  · exact ⟨ob, fun e => (h.ownF ob (hao h0)).2.2 e.symm, hao⟩
  · exact ⟨lb + 1, by omega, fun h' => absurd h' h0⟩

theorem drive_flush {w : World} {F : Nat → Prop} {db : Nat} {d : DM} (h : DriveAt w F db d) (hlive : d.lost = false) (hk : d.loose.length ≤ 1000000000) :
    Calls Try.prog 70 #[.pointer (some ⟨db, 0, none⟩)] w fun e w' => e = .returned (.int .i64 0) ∧ DStep w F db (d.keep fun _ => true) w' := by
  rcases h.is with ⟨h1, h2, h3, h4, h5⟩ | ⟨h1, lb, ov, lvs, ovs, hl⟩
  · rw [h1] at hlive; cases hlive
  · obtain ⟨ao, cap, ob, hov, hao⟩ := hl.oao
    obtain ⟨ob', hne', hao'⟩ := hl.lbob (fun h0 => (hao h0).2)
    refine (flush_walk db lb ob' d.lasts.length d.loose.length cap d.lasts.length ao lvs ovs w (by rw [← hov]; exact hl.blk) hl.row hl.len hl.olen (hl.wrs hao') hl.ne hne' hk (fun h0 => ?_)).mono ?_
    · have e1 := hao' h0
      have e2 := (hao h0)
      rw [e2.2] at e1; injection e1 with e1
      rw [e2.1, e1]
    · rintro e w' ⟨rfl, hm, hlr, hD⟩
      exact ⟨rfl, keep_live h.here hl h1 _ hm hlr hD⟩

set_option maxHeartbeats 400000 in
set_option maxRecDepth 100000 in
theorem crash_lost (db : Nat) (x : Nat) (w : World) (hD : w.heap[db]? = some (.cells #[.slice none 0 0, .slice none 0 0, .bool true] tDrive (0, 0))) :
    Calls Try.prog 73 #[.pointer (some ⟨db, 0, none⟩), .int .u64 x] w fun e w' => e = .returned (.tuple #[]) ∧ Mod (fun b => b = db) w w' ∧ w'.heap[db]? = some (.cells #[.slice none 0 0, .slice none 0 0, .bool true] tDrive (0, 0)) := by
  have h1 : w.cell? ⟨db, 1, none⟩ = some (.slice none 0 0) := blk_cell hD rfl
  have f1 := blk_free hD 1
  have HD := Lib.hid hD; clear hD
  go_enter Try.func73, Try.ntmps73
  go_wp2
  go_loop [13] (fun i => i = .int .i64 0) (fun _ => 0)
  case atStart => rfl
  case round =>
    subst hrel
    go_wp2
    go_end0
    exact ⟨rfl, (Mod.refl (fun b => b = db) w).setCell (p := ⟨db, 1, none⟩) (fun _ => rfl) _, blk_set HD.out 1 _⟩

theorem drive_crash {w : World} {F : Nat → Prop} {db : Nat} {d : DM} (h : DriveAt w F db d) (x : Nat) (hx : x ≤ 18446744073709551615) (hk : d.loose.length ≤ 1000000000) :
    Calls Try.prog 73 #[.pointer (some ⟨db, 0, none⟩), .int .u64 x] w fun e w' => e = .returned (.tuple #[]) ∧ DStep w F db (d.keep (crashSel x)) w' := by
  rcases h.is with ⟨h1, h2, h3, h4, h5⟩ | ⟨h1, lb, ov, lvs, ovs, hl⟩
  · refine (crash_lost db x w h5).mono ?_
    rintro e w' ⟨rfl, hm, hD'⟩
    refine ⟨rfl, ⟨hm.mono fun k _ hk => hk ▸ h4, ⟨fun b hb => ?_, .inl ⟨h1, by simp [DM.keep, h2, h3, runW], rfl, .inl h4, hD'⟩⟩⟩⟩
    rcases hb with hb | hb
    · exact Nat.lt_of_lt_of_le (h.here b hb) hm.size
    · exact hb.2
  · obtain ⟨ao, cap, ob, hov, hao⟩ := hl.oao
    obtain ⟨ob', hne', hao'⟩ := hl.lbob (fun h0 => (hao h0).2)
    refine (crash_walk db lb ob' d.lasts.length d.loose.length cap d.lasts.length ao x false hx lvs ovs w (by rw [← hov]; exact hl.blk) hl.row hl.len hl.olen (hl.wrs hao') hl.ne hne' hk (fun h0 => ?_)).mono ?_
    · have e1 := hao' h0
      have e2 := (hao h0)
      rw [e2.2] at e1; injection e1 with e1
      rw [e2.1, e1]
    · rintro e w' ⟨rfl, hm, hlr, hD⟩
      exact ⟨rfl, keep_live h.here hl h1 _ hm hlr hD⟩

theorem drive_lose {w : World} {F : Nat → Prop} {db : Nat} {d : DM} (h : DriveAt w F db d) :
    Calls Try.prog 39 #[.pointer (some ⟨db, 0, none⟩)] w fun e w' => e = .returned (.tuple #[]) ∧ DStep w F db DM.lose w' := by
  obtain ⟨lv, ov, x, hD⟩ : ∃ lv ov x, w.heap[db]? = some (.cells #[lv, ov, .bool x] tDrive (0, 0)) := by
    rcases h.is with ⟨h1, h2, h3, h4, h5⟩ | ⟨h1, lb, ov, lvs, ovs, hl⟩
    · exact ⟨_, _, _, h5⟩
    · exact ⟨_, _, _, hl.blk⟩
  refine (lose_walk db lv ov x w hD).mono ?_
  rintro e w' ⟨rfl, hm, hD'⟩
  refine ⟨rfl, ⟨hm.mono fun k _ hk => hk ▸ h.fdb, ⟨fun b hb => ?_, .inl ⟨rfl, rfl, rfl, .inl h.fdb, hD'⟩⟩⟩⟩
  rcases hb with hb | hb
  · exact Nat.lt_of_lt_of_le (h.here b hb) hm.size
  · exact hb.2

theorem drive_made {w w' : World} {n : Nat} {v : Value} (hn : n ≤ 128) (h : NewP w n v w') : ∃ db, v = .pointer (some ⟨db, 0, none⟩) ∧ w.heap.size ≤ db ∧ Below w.heap.size w w' ∧ DriveAt w' (Ext (fun _ => False) w w') db (DM.new n) := by
  obtain ⟨db, lb, rfl, hdb, hlb, hne, hb, hr, hD⟩ := h
  refine ⟨db, rfl, hdb, hb, ⟨fun b hb => ?_, .inr ⟨rfl, lb, .slice none 0 0, List.replicate n (.slice none 0 0), [], ?_⟩⟩⟩
  · rcases hb with hb | hb
    · exact hb.elim
    · exact hb.2
  · exact {
      blk := by simpa [DM.new] using hD
      row := hr
      fdb := .inr ⟨hdb, blk_lt hD⟩
      flb := .inr ⟨hlb, blk_lt hr⟩
      ne := hne
      own := World.ownsRow_nil _ _ _ _
      ownF := fun g hg => by simp [Value.ownBlock] at hg
      len := by simp [DM.new]
      olen := by simp [DM.new]
      at_ := fun i hi => by
        have hi' : i < n := by simpa [DM.new] using hi
        simp only [DM.new, List.getD_eq_getElem?_getD, List.getElem?_replicate, hi', if_true, Option.getD_some]
        exact ⟨Bs.nil _ _, by simp⟩
      oat := fun i hi => by simp [DM.new] at hi
      few := by simpa [DM.new] using hn }
theorem clampN_le (s : Int) : clampN s ≤ 128 := by unfold clampN; split <;> (try split) <;> omega
end Go.Proofs.Fl

import Derived.Test.YtficmalfoeaibaaXG5
namespace Go.Proofs.Fl
open Go.RowKit

/-! ### a table whose rows are written -/
structure Mt (w : World) (base : Nat) (v : Value) (vs : List Value) (wd : Nat) (rows : List Bytes) : Prop where
  own : w.ownsRow base tBytes 1 v rows.length vs
  row : ∀ i, i < rows.length → w.ownsRow base tU8 1 (vs.getD i undef) wd (u8s (rows.getD i []))
  ne : ∀ i j, i < rows.length → j < rows.length → i ≠ j → ∀ g, (vs.getD i undef).ownBlock = some g → (vs.getD j undef).ownBlock ≠ some g
  pos : 0 < wd
  big : wd ≤ 1000
  many : rows.length ≤ 1000

theorem own_ty {w : World} {base size n : Nat} {e : TypeId} {v : Value} {xs : List Value} (h : w.ownsRow base e size v n xs) (g : Nat) (hg : v.ownBlock = some g) : ∃ cs, w.heap[g]? = some (.cells cs e (0, 0)) := by
  rcases h.2 with ⟨rfl, _⟩ | ⟨g', cap, cur, rfl, _, hgg, _⟩
  · cases hg
  · have e := own_some hg; subst e; exact ⟨cur, hgg⟩
theorem own_ne {w : World} {base base' size size' n n' : Nat} {e e' : TypeId} {v v' : Value} {xs xs' : List Value} (h : w.ownsRow base e size v n xs) (h' : w.ownsRow base' e' size' v' n' xs') (hee : e ≠ e') (g : Nat) (hg : v.ownBlock = some g) : v'.ownBlock ≠ some g := by
  intro hg'
  obtain ⟨c, q⟩ := own_ty h g hg
  obtain ⟨c', q'⟩ := own_ty h' g hg'
  rw [q] at q'
  injection q' with q'
  injection q' with _ q'
  exact hee q'
theorem own_keep {w w' : World} {base size n : Nat} {e : TypeId} {v : Value} {xs : List Value} (h : w.ownsRow base e size v n xs) {g : Nat} (hg : w.grownBy w' (some g)) (hne : v.ownBlock ≠ some g) : w'.ownsRow base e size v n xs :=
  h.kept hg (.inr hne)
theorem getD_set_eq {α : Type} (l : List α) (i : Nat) (x z : α) (h : i < l.length) : (l.set i x).getD i z = x := by
  simp [List.getD_eq_getElem?_getD, h]
theorem getD_set_ne {α : Type} (l : List α) (i j : Nat) (x z : α) (h : i ≠ j) : (l.set i x).getD j z = l.getD j z := by
  simp [List.getD_eq_getElem?_getD, h]

theorem Mt.len {w : World} {base : Nat} {v : Value} {vs : List Value} {wd : Nat} {rows : List Bytes} (h : Mt w base v vs wd rows) (i : Nat) (hi : i < rows.length) : (rows.getD i []).length = wd := by
  have := (h.row i hi).1; simpa using this
theorem Mt.vlen {w : World} {base : Nat} {v : Value} {vs : List Value} {wd : Nat} {rows : List Bytes} (h : Mt w base v vs wd rows) : vs.length = rows.length := by
  have := h.own.1; simpa using this
/-- One row is written. -/
theorem Mt.put {w w' : World} {base : Nat} {v : Value} {vs : List Value} {wd : Nat} {rows : List Bytes} (h : Mt w base v vs wd rows) (i : Nat) (hi : i < rows.length) (r : Bytes)
    (hr : w'.ownsRow base tU8 1 (vs.getD i undef) wd (u8s r)) (hg : w.grownBy w' (vs.getD i undef).ownBlock) : Mt w' base v vs wd (rows.set i r) := by
  obtain ⟨g, cap, e⟩ := own_form (h.row i hi) h.pos
  have eg : (vs.getD i undef).ownBlock = some g := by rw [e]; rfl
  rw [eg] at hg
  refine ⟨by rw [List.length_set]; exact own_keep h.own hg (own_ne (h.row i hi) h.own (by decide) g eg), fun j hj => ?_, fun a b ha hb => by rw [List.length_set] at ha hb; exact h.ne a b ha hb, h.pos, h.big, by rw [List.length_set]; exact h.many⟩
  rw [List.length_set] at hj
  by_cases hij : i = j
  · subst hij
    rw [getD_set_eq _ _ _ _ hi]; exact hr
  · rw [getD_set_ne _ _ _ _ _ hij]
    exact own_keep (h.row j hj) hg (h.ne i j hi hj hij g eg)
theorem Mt.below {w w' : World} {base : Nat} {v : Value} {vs : List Value} {wd : Nat} {rows : List Bytes} (h : Mt w base v vs wd rows) (hb : Below w.heap.size w w') : Mt w' base v vs wd rows :=
  ⟨own_below h.own hb, fun i hi => own_below (h.row i hi) hb, h.ne, h.pos, h.big, h.many⟩
theorem Mt.drew {w : World} {base : Nat} {v : Value} {vs : List Value} {wd : Nat} {rows : List Bytes} (h : Mt w base v vs wd rows) : Mt w.drew base v vs wd rows :=
  ⟨h.own, h.row, h.ne, h.pos, h.big, h.many⟩
theorem Mt.form {w : World} {base : Nat} {v : Value} {vs : List Value} {wd : Nat} {rows : List Bytes} (h : Mt w base v vs wd rows) (h0 : 0 < rows.length) : ∃ tb tc, v = .slice (some ⟨tb, 0, none⟩) rows.length tc := own_form h.own h0
theorem Mt.at_ {w : World} {base tb n tc : Nat} {vs : List Value} {wd : Nat} {rows : List Bytes} (h : Mt w base (.slice (some ⟨tb, 0, none⟩) n tc) vs wd rows) (i : Nat) (hi : i < rows.length) :
    ∃ g c, vs.getD i undef = .slice (some ⟨g, 0, none⟩) wd c ∧ w.cell? ⟨tb, i, none⟩ = some (.slice (some ⟨g, 0, none⟩) wd c) ∧ base ≤ g ∧ g < w.heap.size ∧ w.ownsRow base tU8 1 (.slice (some ⟨g, 0, none⟩) wd c) wd (u8s (rows.getD i [])) := by
  obtain ⟨g, c, e⟩ := own_form (h.row i hi) h.pos
  have hown := h.own
  have hn := own_len hown
  subst hn
  have hc := hown.cellAt i (by omega)
  have hr := h.row i hi
  have hvl := h.vlen
  have e2 : vs[i]? = some (vs.getD i undef) := by simp [List.getD_eq_getElem?_getD, List.getElem?_eq_getElem (show i < vs.length by omega)]
  rw [e2, e] at hc
  rw [e] at hr
  have hlt := hr.lt g rfl
  exact ⟨g, c, e, hc, hlt.1, hlt.2, hr⟩

/-! ### a row has a 1 at its place, all others a 0 there -/
def scaleK (b : UInt8) (r : Bytes) : Nat → Bytes
  | 0 => r
  | k + 1 => (scaleK b r k).set k (gmul b (r.getD k 0))
@[simp] theorem scaleK_length (b : UInt8) (r : Bytes) (k : Nat) : (scaleK b r k).length = r.length := by induction k <;> simp_all [scaleK]
theorem scaleK_get (b : UInt8) (r : Bytes) (k j : Nat) (h : k ≤ j) : (scaleK b r k).getD j 0 = r.getD j 0 := by
  induction k with
  | zero => rfl
  | succ k ih => show ((scaleK b r k).set k _).getD j 0 = _; rw [getD_set_ne _ _ _ _ _ (by omega), ih (by omega)]
def clearK (i : Nat) (rows : List Bytes) : Nat → List Bytes
  | 0 => rows.set i (scaleK (ginv ((rows.getD i []).getD i 0)) (rows.getD i []) (rows.getD i []).length)
  | j + 1 => let t := clearK i rows j; if j = i then t else t.set j (addS (t.getD j []) (t.getD i []) ((t.getD j []).getD i 0))
def clearM (rows : List Bytes) (i : Nat) : List Bytes := clearK i rows rows.length
@[simp] theorem clearK_length (i : Nat) (rows : List Bytes) (k : Nat) : (clearK i rows k).length = rows.length := by
  induction k with
  | zero => simp [clearK]
  | succ k ih => unfold clearK; simp only; split <;> simp [ih]

theorem Bs.of_row {w : World} {base g c : Nat} {n : Nat} {l : Bytes} (h : w.ownsRow base tU8 1 (.slice (some ⟨g, 0, none⟩) n c) n (u8s l)) (hn : 0 < n) : Bs w (fun b => b = g) (.slice (some ⟨g, 0, none⟩) n c) l := by
  have hl : l.length = n := by have := h.1; simpa using this
  have hb := Bs.of_own h (fun _ => True) (fun _ _ _ => trivial)
  obtain ⟨b, o, c', e, _, hlt, hc⟩ := hb.cellAt (by omega)
  injection e with e1 e2 e3
  injection e1 with e1
  injection e1 with e1 e4
  obtain ⟨_, _, e5, hk1, hk2, _⟩ := hb
  injection e5 with e5 _ e6
  subst e1; subst e4; subst e3; subst e6
  exact ⟨_, _, by rw [hl], hk1, hk2, .inr ⟨_, _, rfl, rfl, hlt, hc⟩⟩
theorem clearK_same (i : Nat) (rows : List Bytes) (j : Nat) (h : j = i) : clearK i rows (j + 1) = clearK i rows j := by
  show (if j = i then _ else _) = _; rw [if_pos h]
theorem clearK_next (i : Nat) (rows : List Bytes) (j : Nat) (h : ¬ j = i) : clearK i rows (j + 1) = (clearK i rows j).set j (addS ((clearK i rows j).getD j []) ((clearK i rows j).getD i []) (((clearK i rows j).getD j []).getD i 0)) := by
  show (if j = i then _ else _) = _; rw [if_neg h]

set_option maxHeartbeats 2000000 in
set_option maxRecDepth 100000 in
theorem clear_any (base : Nat) (v : Value) (vs : List Value) (wd : Nat) (rows : List Bytes) (i : Nat) (w : World) (h : Mt w base v vs wd rows) (hi : i < rows.length) (hiw : i < wd) (hbase : base ≤ w.heap.size) :
    Calls Try.prog 116 #[v, .int .i64 i] w fun e w' => e = .returned (.tuple #[]) ∧ Mt w' base v vs wd (clearM rows i) ∧ Below base w w' := by
  obtain ⟨tb, tc, rfl⟩ := h.form (by omega)
  obtain ⟨g, c, ei, hci, hbg, hgw, hri⟩ := h.at_ i hi
  have hl := h.len i hi
  have hset : rows.set i (rows.getD i []) = rows := by simp [List.getD_eq_getElem?_getD, List.getElem?_eq_getElem hi]
  have hK0 : clearK i rows 0 = rows.set i (scaleK (ginv ((rows.getD i []).getD i 0)) (rows.getD i []) (rows.getD i []).length) := rfl
  have c1 := hri.cellAt i (by omega)
  rw [u8s_at _ _ (by omega)] at c1
  obtain ⟨r0, hr0⟩ : ∃ r0, rows.getD i [] = r0 := ⟨_, rfl⟩
  rw [hr0] at c1 hl hset hK0
  obtain ⟨pv, hpv⟩ : ∃ pv, r0.getD i 0 = pv := ⟨_, rfl⟩
  rw [hpv] at c1 hK0
  have hii : (i : Int) < (rows.length : Int) := by omega
  have hiwi : (i : Int) < (wd : Int) := by omega
  have hbig := h.big; have hmany := h.many
  have EI := Lib.hid ei
  have HM := Lib.hid h
  have HR0 := Lib.hid hr0; have HSET := Lib.hid hset; have HK0 := Lib.hid hK0
  clear ei h hri hr0 hpv hset hK0
  go_enter Try.func116, Try.ntmps116
  go_wp2_with (fail)
  refine (inv_any _ _).mono ?_
  rintro e w1 ⟨rfl, rfl⟩
  obtain ⟨bb, hbb⟩ : ∃ bb, ginv pv = bb := ⟨_, rfl⟩
  have HK1 := HK0.out
  rw [hbb] at HK1 ⊢
  have HK2 := Lib.hid HK1
  clear hbb HK1 HK0
  go_wp2
  clear c1
  go_loopw [22] (fun ix wr => ∃ k : Nat, k ≤ wd ∧ ix = .int .i64 k ∧ Mt wr base (.slice (some ⟨tb, 0, none⟩) rows.length tc) vs wd (rows.set i (scaleK bb r0 k)) ∧ Below base w wr)
    (fun ix _ => wd - (intOf ix).toNat)
  case atStart => exact ⟨0, by omega, rfl, by
    show Mt w base _ vs wd (rows.set i r0)
    rw [HSET.out]; exact HM.out, Below.refl _ _⟩
  case round =>
    obtain ⟨k, hk, rfl, hm, hb⟩ := hrel
    clear hci
    obtain ⟨g2, c2, e2, hci, _, _, hri⟩ := hm.at_ i (by simpa using hi)
    rw [EI.out] at e2
    injection e2 with e2 _ e3
    injection e2 with e2
    injection e2 with e2
    subst e2; subst e3
    rw [getD_set_eq _ _ _ _ hi] at hri
    by_cases hlt : k < wd
    · have x1 := hri.cellAt k (by omega)
      rw [u8s_at _ _ (by rw [scaleK_length]; omega), scaleK_get _ _ _ _ (Nat.le_refl _)] at x1
      have x2 := hri.frozenAt k
      have st := hri.stored k (.int .u8 ((gmul bb (r0.getD k 0)).toNat : Int))
      have es : scaleK bb r0 (k + 1) = (scaleK bb r0 k).set k (gmul bb (r0.getD k 0)) := rfl
      rw [u8s_set, ← es] at st
      have hput := hm.put i (by simpa using hi) _ (by rw [EI.out]; exact st.1) (by rw [EI.out]; exact st.2)
      rw [List.set_set] at hput
      have hb2 := hb.grown st.2 (Nat.le_trans hbase hb.size) (fun k h => by cases h; exact hbg)
      have HP := Lib.hid hput; have HB2 := Lib.hid hb2
      have hkr : k < wd := hlt
      clear st es hput hb2 hri hm
      generalize r0.getD k 0 = xk at *
      go_wp2
      go_region_law ((go_simp; go_at_call 127; refine (mul_any _ _ _).mono ?_; rintro e w1 ⟨rfl, rfl⟩))
      all_goals
        go_wp2
        go_roundw
        case rel => exact ⟨k + 1, by omega, by go_num, HP.out.drew, HB2.out.drew⟩
        case measure => simp [intOf]; omega
    · obtain rfl : k = wd := by omega
      have HK3 : rows.set i (scaleK bb r0 k) = clearK i rows 0 := by rw [HK2.out, hl]
      rw [HK3] at hm
      have HM1 := Lib.hid hm
      clear hri hm hci
      go_wp2
      go_loopw [39] (fun ix wr => ∃ j : Nat, j ≤ rows.length ∧ ix = .int .i64 j ∧ Mt wr base (.slice (some ⟨tb, 0, none⟩) rows.length tc) vs k (clearK i rows j) ∧ Below base w wr)
        (fun ix _ => rows.length - (intOf ix).toNat)
      case atStart => exact ⟨0, by omega, rfl, HM1.out, hb⟩
      case round =>
        clear hb
        obtain ⟨j, hj, rfl, hm, hb⟩ := hrel
        by_cases hlt2 : j < rows.length
        · obtain ⟨gj, cj, ej, hcj, hbj, hgj, hrj⟩ := hm.at_ j (by simpa using hlt2)
          by_cases hji : j = i
          · subst hji
            rw [← clearK_same j rows j rfl] at hm
            have HM2 := Lib.hid hm
            clear hm hrj
            go_wp2
            go_roundw
            case rel => exact ⟨j + 1, by omega, by go_num, HM2.out, hb⟩
            case measure => simp [intOf]; omega
          · have hji' : ¬ (j : Int) = (i : Int) := by omega
            obtain ⟨g2, c2, e2, hci, _, _, hri⟩ := hm.at_ i (by simpa using hi)
            have hne := hm.ne j i (by simpa using hlt2) (by simpa using hi) hji gj (by rw [ej]; rfl)
            rw [e2] at hne
            have x1 := hrj.cellAt i (by omega)
            have ljl := hm.len j (by simpa using hlt2)
            have lil := hm.len i (by simpa using hi)
            rw [u8s_at _ _ (by omega)] at x1
            have hB := Bs.of_row hri (by omega)
            have hB1 : Bs wr.drew (fun b => b = g2) (.slice (some ⟨g2, 0, none⟩) k c2) ((clearK i rows j).getD i []) := hB.drew
            have hadd := add_any base _ _ _ _ (((clearK i rows j).getD j []).getD i 0) _ wr.drew (by rw [ljl]; exact own_drew hrj) hB1 (by
              intro g' hg' e'
              have e1 := own_some hg'
              exact hne (by rw [e1, e']; rfl)) (by omega) (by omega)
            rw [ljl] at hadd
            have HN := Lib.hid (clearK_next i rows j hji)
            have EJ := Lib.hid ej
            have HM2 := Lib.hid hm
            have hir : i < rows.length := hi
            have hik : i < k := hiw
            clear hrj hri hB hB1 hne hm lil ljl ej e2
            generalize hxj : ((clearK i rows j).getD j []).getD i 0 = xj at *
            clear hxj
            go_wp2
            go_region_law ((go_simp; go_at_call 117; refine hadd.mono ?_; rintro e w1 ⟨rfl, ho1, hg1⟩))
            all_goals
              have hput := HM2.out.drew.put j (by simpa using hlt2) _ (by rw [EJ.out]; exact ho1) (by rw [EJ.out]; exact hg1)
              rw [← HN.out] at hput
              have hb2 := hb.drew.grown hg1 (Nat.le_trans hbase hb.size) (fun k h => by cases h; exact hbj)
              have HP := Lib.hid hput; have HB2 := Lib.hid hb2
              clear hput hb2 ho1 hg1 hadd
              go_wp2
              go_roundw
              case rel => exact ⟨j + 1, by omega, by go_num, HP.out, HB2.out⟩
              case measure => simp [intOf]; omega
        · obtain rfl : j = rows.length := by omega
          go_wp2
          go_end0
          exact ⟨rfl, hm, hb⟩
end Go.Proofs.Fl

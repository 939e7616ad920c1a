import Derived.Test.YtficmalfoeaibaaXG2toG4
import Derived.Test.YtficmalfoeaibaaXQ0
namespace Go.Proofs.Fl
open Go.RowKit

theorem L_load2 {w0 w : World} {pb : Nat} {m : PM} (h : PoolL w0 w pb m) (hk : m.calm) (n S K : Int) :
    Calls Try.prog 29 #[.pointer (some ⟨pb, 0, none⟩), .int .i64 n, .int .i64 S, .int .i64 K] w fun e w' => ∃ v, e = .returned (.tuple #[v, .int .i64 (m.load n S K).2]) ∧ Bs w' (Fresh w) v (m.load n S K).1 ∧ Below w.heap.size w w' := by
  obtain ⟨h1, F, h2, h3⟩ := h
  refine (pool_load h3 hk n S K).mono ?_
  rintro e w' ⟨v, rfl, hv, hb⟩
  exact ⟨v, rfl, hv, hb⟩
theorem TabO.mono {w : World} {base base' : Nat} {S T : Nat → Prop} {v : Value} {rows : List Bytes} (h : TabO w base S v rows) (hb : base' ≤ base) (hs : ∀ b, S b → T b) : TabO w base' T v rows := by
  obtain ⟨vs, h1, h2⟩ := h
  refine ⟨vs, ⟨h1.1, ?_⟩, fun i hi => (h2 i hi).mono fun b _ h => ⟨hs b h.1, h.2⟩⟩
  rcases h1.2 with hn | ⟨g, cap, cur, rfl, hbg, r⟩
  · exact .inl hn
  · exact .inr ⟨g, cap, cur, rfl, Nat.le_trans hb hbg, r⟩
/-- What is there of a stripe's shard. -/
def shardOf (m : PM) (id d at_ : Int) : Bytes := if (m.load d id at_).2 ≠ 0 ∨ (m.load d id at_).1.length ≠ 8 then [] else (m.load d id at_).1
def gatherK (m : PM) (id : Int) (locs : List Int) (k : Nat) : List Bytes := (List.range k).map fun i => shardOf m id (locs.getD i 0) i
theorem gatherK_succ (m : PM) (id : Int) (locs : List Int) (k : Nat) : gatherK m id locs (k + 1) = gatherK m id locs k ++ [shardOf m id (locs.getD k 0) k] := by simp [gatherK, List.range_succ]
theorem gatherK_length (m : PM) (id : Int) (locs : List Int) (k : Nat) : (gatherK m id locs k).length = k := by simp [gatherK]
/-- A stripe by value. -/
def stripeV (id ep : Int) (lv : Value) : Value := .agg #[.int .i64 id, .int .i64 ep, lv]
/-- v is a slice of numbers. -/
def Ns (w : World) (S : Nat → Prop) (v : Value) (l : List Int) : Prop := Sv w S v (l.map (Value.int .i64))

theorem Ns.open_ {w : World} {S : Nat → Prop} {lv : Value} {locs : List Int} (h : Ns w S lv locs) : ∃ lao lc, lv = .slice lao locs.length lc ∧ (0 < locs.length → ∃ b o, lao = some ⟨b, o, none⟩ ∧ b < w.heap.size ∧ ∀ j, j < locs.length → w.cell? ⟨b, o + j, none⟩ = some (.int .i64 (locs.getD j 0))) := by
  obtain ⟨ao, c, e, h1, _, h3⟩ := h
  rw [List.length_map] at e h3 h1
  refine ⟨ao, c, e, fun hp => ?_⟩
  rcases h3 with ⟨rfl, rfl⟩ | ⟨b, o, rfl, _, hb, hc⟩
  · omega
  · refine ⟨b, o, rfl, hb, fun j hj => ?_⟩
    rw [hc j hj]
    simp [List.getD_eq_getElem?_getD, List.getElem?_eq_getElem hj]

set_option maxHeartbeats 2000000 in
set_option maxRecDepth 100000 in
theorem gather_any {w0 w : World} {S : Nat → Prop} {pb : Nat} {m : PM} (h : PoolL w0 w pb m) (hk : m.calm) (id ep : Int) (lv : Value) (locs : List Int) (hL : Ns w S lv locs) (hn : locs.length ≤ 1000) :
    Calls Try.prog 84 #[.pointer (some ⟨pb, 0, none⟩), stripeV id ep lv] w fun e w' => ∃ v, e = .returned v ∧ TabO w' w.heap.size (Fresh w) v (gatherK m id locs locs.length) ∧ Below w.heap.size w w' := by
  unfold stripeV
  obtain ⟨lao, lc, rfl, hsh⟩ := hL.open_
  have HSH := Lib.hid hsh; have HP := Lib.hid h; have HK := Lib.hid hk
  clear hsh hL h hk
  go_enter Try.func84, Try.ntmps84
  go_wp2
  obtain ⟨W, hW⟩ : ∃ W, w.alloc (.cells #[.int .i64 id, .int .i64 ep, .slice lao locs.length lc] 67) = W := ⟨_, rfl⟩
  have hbx : Below w.heap.size w W := by rw [← hW]; exact (Below.refl _ _).alloc (Nat.le_refl _) _
  have hid0 : W.cell? ⟨w.heap.size, 0, none⟩ = some (.int .i64 id) := by rw [← hW, World.cell?_alloc_new]; rfl
  have hbl : w.heap.size < W.heap.size := by rw [← hW]; simp
  have hPW := HP.out.ext hbx
  have HPW := Lib.hid hPW
  clear hPW
  rw [hW]
  clear hW
  go_loopw [5, 13] (fun v i wr => ∃ k : Nat, k ≤ locs.length ∧ i = .int .i64 k ∧ TabO wr W.heap.size (Fresh W) v (gatherK m id locs k) ∧ Below W.heap.size W wr)
    (fun _ i _ => locs.length - (intOf i).toNat)
  case atStart => exact ⟨0, by omega, rfl, TabO.nil _ _ _, Below.refl _ _⟩
  case round =>
    obtain ⟨k, hkl, rfl, ht, hb⟩ := hrel
    obtain ⟨tao, tc, rfl⟩ := ht.shape
    have HT := Lib.hid ht
    clear ht
    by_cases hlt : k < locs.length
    · obtain ⟨lb, lo, rfl, hlb, hc⟩ := HSH.out (by omega)
      have c0 := (hb.cell (p := ⟨w.heap.size, 0, none⟩) hbl).trans hid0
      have c1 := (hb.cell (p := ⟨lb, lo + k, none⟩) (Nat.lt_of_lt_of_le hlb hbx.size)).trans ((hbx.cell (p := ⟨lb, lo + k, none⟩) hlb).trans (hc k hlt))
      have hsu := gatherK_succ m id locs k
      generalize locs.getD k 0 = d at *
      have HSU := Lib.hid hsu
      have hld := L_load2 (HPW.out.ext hb) HK.out d id k
      have HLD := Lib.hid hld
      clear hsu hc hld
      go_wp2_with (fail)
      refine HLD.out.mono ?_
      rintro e w2 ⟨v2, rfl, hv2, hb2⟩
      have hsd : shardOf m id d k = if (m.load d id k).2 ≠ 0 ∨ (m.load d id k).1.length ≠ 8 then [] else (m.load d id k).1 := rfl
      generalize m.load d id (k : Int) = ld at *
      obtain ⟨lb2, le2⟩ := ld
      simp only at hsd hv2
      obtain ⟨ao2, kc2, rfl⟩ := hv2.shape
      obtain ⟨vs0, q0, _⟩ := HT.out
      have hbW2 : Below W.heap.size W w2 := hb.trans (hb2.mono hb.size)
      obtain ⟨vs, q1, q2⟩ := HT.out.below hb2
      have Q0 := Lib.hid q0; have Q1 := Lib.hid q1; have Q2 := Lib.hid q2
      clear q0 q1 q2
      by_cases hle : le2 = 0
      · subst hle
        by_cases hl8 : lb2.length = 8
        · have hcase : ¬ ((0 : Nat) ≠ 0 ∨ lb2.length ≠ 8) := by omega
          have hl8i : (lb2.length : Int) = 8 := by omega
          rw [if_neg hcase] at hsd
          have hx : Bs w2 (fun b => Fresh W b ∧ (Value.slice tao (gatherK m id locs k).length tc).ownBlock ≠ some b) (.slice ao2 lb2.length kc2) lb2 := hv2.mono fun b _ h => ⟨Nat.le_trans hb.size h, fun e => by have h1 := (Q0.out.lt b e).2; have h2 : wr.heap.size ≤ b := h; omega⟩
          rw [hl8] at hx
          have HSD := Lib.hid hsd; have HX := Lib.hid hx
          clear hx hsd hv2 HLD hcase
          go_wp2_with (at_builtin; refine wpList_app_new rfl _ _ _ rfl E59 W.heap.size _ 1 Q1.out rfl rfl rfl (by intro u hu; simp at hu; subst hu; rfl) (by rw [gatherK_length]; omega) (by decide) hbW2.size ?_)
          intro v' w5 hown6 hg6 _
          have ht5 := TabO.snoc Q1.out Q2.out HX.out hown6 hg6
          rw [← HSD.out, ← HSU.out] at ht5
          have hb5 := Grew.new hbW2 hbW2.size hg6 (fun g hg => (Q1.out.lt g hg).1)
          obtain ⟨tao5, tc5, rfl⟩ := ht5.shape
          have HT5 := Lib.hid ht5; have HB5 := Lib.hid hb5
          clear ht5 hb5 hg6 hown6 hbW2
          go_wp2
          go_roundw
          case rel => exact ⟨k + 1, by omega, by go_num, HT5.out, HB5.out⟩
          case measure => simp [intOf]; omega
        · have hcase : (0 : Nat) ≠ 0 ∨ lb2.length ≠ 8 := by omega
          have hl8i : ¬ (lb2.length : Int) = 8 := by omega
          rw [if_pos hcase] at hsd
          have hx : Bs w2 (fun b => Fresh W b ∧ (Value.slice tao (gatherK m id locs k).length tc).ownBlock ≠ some b) (.slice none 0 0) [] := Bs.nil _ _
          have HSD := Lib.hid hsd; have HX := Lib.hid hx
          clear hx hsd hv2 HLD hcase
          go_wp2_with (at_builtin; refine wpList_app_new rfl _ _ _ rfl E59 W.heap.size _ 1 Q1.out rfl rfl rfl (by intro u hu; simp at hu; subst hu; rfl) (by rw [gatherK_length]; omega) (by decide) hbW2.size ?_)
          intro v' w5 hown6 hg6 _
          have ht5 := TabO.snoc Q1.out Q2.out HX.out hown6 hg6
          rw [← HSD.out, ← HSU.out] at ht5
          have hb5 := Grew.new hbW2 hbW2.size hg6 (fun g hg => (Q1.out.lt g hg).1)
          obtain ⟨tao5, tc5, rfl⟩ := ht5.shape
          have HT5 := Lib.hid ht5; have HB5 := Lib.hid hb5
          clear ht5 hb5 hg6 hown6 hbW2
          go_wp2
          go_roundw
          case rel => exact ⟨k + 1, by omega, by go_num, HT5.out, HB5.out⟩
          case measure => simp [intOf]; omega
      · have hcase : le2 ≠ 0 ∨ lb2.length ≠ 8 := by omega
        have hlei : ¬ (le2 : Int) = 0 := by omega
        rw [if_pos hcase] at hsd
        have hx : Bs w2 (fun b => Fresh W b ∧ (Value.slice tao (gatherK m id locs k).length tc).ownBlock ≠ some b) (.slice none 0 0) [] := Bs.nil _ _
        have HSD := Lib.hid hsd; have HX := Lib.hid hx
        clear hx hsd hv2 HLD hcase
        go_wp2_with (at_builtin; refine wpList_app_new rfl _ _ _ rfl E59 W.heap.size _ 1 Q1.out rfl rfl rfl (by intro u hu; simp at hu; subst hu; rfl) (by rw [gatherK_length]; omega) (by decide) hbW2.size ?_)
        intro v' w5 hown6 hg6 _
        have ht5 := TabO.snoc Q1.out Q2.out HX.out hown6 hg6
        rw [← HSD.out, ← HSU.out] at ht5
        have hb5 := Grew.new hbW2 hbW2.size hg6 (fun g hg => (Q1.out.lt g hg).1)
        obtain ⟨tao5, tc5, rfl⟩ := ht5.shape
        have HT5 := Lib.hid ht5; have HB5 := Lib.hid hb5
        clear ht5 hb5 hg6 hown6 hbW2
        go_wp2
        go_roundw
        case rel => exact ⟨k + 1, by omega, by go_num, HT5.out, HB5.out⟩
        case measure => simp [intOf]; omega
    · obtain rfl : k = locs.length := by omega
      have hbz : Below w.heap.size w wr := hbx.trans (hb.mono (Nat.le_of_lt hbl))
      go_wp2
      go_ret
      exact ⟨_, rfl, HT.out.mono (Nat.le_of_lt hbl) (fun b h => Nat.le_trans (Nat.le_of_lt hbl) h), hbz⟩
end Go.Proofs.Fl

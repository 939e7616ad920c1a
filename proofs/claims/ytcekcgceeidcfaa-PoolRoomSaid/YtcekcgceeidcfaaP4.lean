import Derived.Test.YtcekcgceeidcfaaP3
namespace Go.Proofs.Fl
open Go.RowKit

theorem ret_i64 {a b : Int} (h : a = b) : Ending.returned (.int .i64 a) = .returned (.int .i64 b) := by rw [h]
def firstIn (q : Nat → Bool) (n : Nat) : Option Nat := (List.range n).find? q
def idxV : Option Nat → Int | some i => i | none => -1
theorem firstIn_some {q : Nat → Bool} {n k : Nat} (hk : k < n) (h1 : q k = true) (h0 : ∀ j, j < k → q j = false) : firstIn q n = some k := by
  unfold firstIn
  rw [List.find?_range_eq_some]
  exact ⟨h1, by simpa using hk, fun j hj => by simp [h0 j hj]⟩
theorem firstIn_none {q : Nat → Bool} {n : Nat} (h0 : ∀ j, j < n → q j = false) : firstIn q n = none := by
  unfold firstIn
  rw [List.find?_eq_none]
  intro x hx
  have := h0 x (by simpa using hx)
  simp [this]
theorem firstIn_spec {q : Nat → Bool} {n k : Nat} (h : firstIn q n = some k) : k < n ∧ q k = true := by
  unfold firstIn at h
  exact ⟨by simpa using List.mem_of_find?_eq_some h, List.find?_some h⟩

theorem open_none {S : Nat → Prop} {v : Value} {l : Bytes} {w : World} (hB : Bs w S v l) (hn : l.length ≤ 1000000) (h : openF l = none) :
    Calls Try.prog 72 #[v] w fun e w' => e = .returned (.tuple #[.int .i64 0, .int .i64 0, .slice none 0 0, .bool false]) ∧ Below w.heap.size w w' := by
  refine (open_any hB hn).mono ?_
  rintro e w' ⟨v', rfl, ho, hb⟩
  rw [h] at ho
  exact ⟨by rw [ho], hb⟩
theorem open_some {S : Nat → Prop} {v : Value} {l : Bytes} {w : World} (hB : Bs w S v l) (hn : l.length ≤ 1000000) {s p : Nat} {b : Bytes} (h : openF l = some (s, p, b)) :
    Calls Try.prog 72 #[v] w fun e w' => ∃ bv, e = .returned (.tuple #[.int .i64 s, .int .i64 p, bv, .bool true]) ∧ Bs w' (Fresh w) bv b ∧ Below w.heap.size w w' := by
  refine (open_any hB hn).mono ?_
  rintro e w' ⟨v', rfl, ho, hb⟩
  rw [h] at ho
  obtain ⟨bv, rfl, hv⟩ := ho
  exact ⟨bv, rfl, hv, hb⟩

/-- Has a slot that shard? -/
def hasB (S K : Int) (l : Bytes) : Bool :=
  match openF l with
  | none => false
  | some (s, p, _) => ((s : Int) == S) && ((p : Int) == K)

set_option maxHeartbeats 1000000 in
set_option maxRecDepth 100000 in
theorem each_free (pv : Value) (n : Int) (db : Nat) (F : Nat → Prop) (d : DM) (w : World) (h30 : Calls Try.prog 30 #[pv, .int .i64 n] w fun e w' => e = .returned (.pointer (some ⟨db, 0, none⟩)) ∧ w = w')
    (hD : DriveAt w F db d) (hk : d.loose.length ≤ 1000000000) (hlen : ∀ i, i < d.cap → (d.get i).length ≤ 64) (hcap : d.cap ≤ 128) :
    Calls Try.prog 63 #[pv, .int .i64 n, .func (.func 64) #[] #[]] w fun e w' => e = .returned (.int .i64 (idxV (firstIn (fun i => (openF (d.get i)).isNone) d.cap))) ∧ Below w.heap.size w w' := by
  have HL := Lib.hid hlen; clear hlen
  go_enter Try.func63, Try.ntmps63
  go_wp2_with (first | (go_at_call 30; refine h30.mono ?_; rintro e w1 ⟨rfl, rfl⟩) | (go_at_call 67; refine (drive_cap hD).mono ?_; rintro e w1 ⟨rfl, rfl⟩))
  go_loopw [16] (fun i wr => ∃ k : Nat, k ≤ d.cap ∧ i = .int .i64 k ∧ (∀ j, j < k → (fun i => (openF (d.get i)).isNone) j = false) ∧ Below w.heap.size w wr)
    (fun i _ => d.cap - (intOf i).toNat)
  case atStart => exact ⟨0, by omega, rfl, by omega, Below.refl _ _⟩
  case round =>
    obtain ⟨k, hkc, rfl, hq, hb⟩ := hrel
    have HQ := Lib.hid hq; clear hq
    by_cases hlt : k < d.cap
    · have hDr := hD.below hb
      have hl64 := HL.out k hlt
      cases ho : openF (d.get k) with
      | none =>
        have HO := Lib.hid ho; clear ho
        go_wp2_with (fail)
        refine (drive_read hDr k hlt hk).mono ?_
        rintro e w1 ⟨v1, rfl, hv1, hb1⟩
        obtain ⟨ao1, c1, rfl⟩ := hv1.shape
        go_wp2_with (go_at_call 72; refine (open_none hv1 (by omega) HO.out).mono ?_; rintro e w2 ⟨rfl, hb2⟩)
        have hb3 := (hb.trans (hb1.mono hb.size)).trans (hb2.mono (Nat.le_trans hb.size hb1.size))
        clear hv1 hb1 hb2 hDr hb
        have hqk : (fun i => (openF (d.get i)).isNone) k = true := by simp [HO.out]
        refine (free_fn _ _ _ false w2).mono ?_
        rintro e w3 ⟨rfl, rfl⟩
        go_wp2
        go_ret
        exact ⟨ret_i64 (by rw [firstIn_some hlt hqk HQ.out]; rfl), hb3⟩
      | some r =>
        obtain ⟨s, p, b⟩ := r
        have HO := Lib.hid ho; clear ho
        go_wp2_with (fail)
        refine (drive_read hDr k hlt hk).mono ?_
        rintro e w1 ⟨v1, rfl, hv1, hb1⟩
        obtain ⟨ao1, c1, rfl⟩ := hv1.shape
        go_wp2_with (go_at_call 72; refine (open_some hv1 (by omega) HO.out).mono ?_; rintro e w2 ⟨bv, rfl, hbv, hb2⟩)
        have hb3 := (hb.trans (hb1.mono hb.size)).trans (hb2.mono (Nat.le_trans hb.size hb1.size))
        clear hv1 hb1 hb2 hDr hb hbv
        have hqk : (fun i => (openF (d.get i)).isNone) k = false := by simp [HO.out]
        refine (free_fn _ _ _ true w2).mono ?_
        rintro e w3 ⟨rfl, rfl⟩
        go_wp2
        go_roundw
        case rel => exact ⟨k + 1, by omega, by go_num, fun j hj => by
          by_cases e : j = k
          · subst e; exact hqk
          · exact HQ.out j (by omega), hb3⟩
        case measure => simp [intOf]; omega
    · obtain rfl : k = d.cap := by omega
      go_wp2
      go_ret
      exact ⟨ret_i64 (by rw [firstIn_none HQ.out]; rfl), hb⟩

set_option maxHeartbeats 1000000 in
set_option maxRecDepth 100000 in
theorem each_find (pv : Value) (n : Int) (db : Nat) (F : Nat → Prop) (d : DM) (w : World) (x y : Nat) (S K : Int) (h30 : Calls Try.prog 30 #[pv, .int .i64 n] w fun e w' => e = .returned (.pointer (some ⟨db, 0, none⟩)) ∧ w = w')
    (hD : DriveAt w F db d) (hk : d.loose.length ≤ 1000000000) (hlen : ∀ i, i < d.cap → (d.get i).length ≤ 64) (hcap : d.cap ≤ 128) (hx : w.cell? ⟨x, 0, none⟩ = some (.int .i64 S)) (hy : w.cell? ⟨y, 0, none⟩ = some (.int .i64 K)) :
    Calls Try.prog 63 #[pv, .int .i64 n, .func (.func 99) #[] #[.pointer (some ⟨x, 0, none⟩), .pointer (some ⟨y, 0, none⟩)]] w fun e w' => e = .returned (.int .i64 (idxV (firstIn (fun i => hasB S K (d.get i)) d.cap))) ∧ Below w.heap.size w w' := by
  have HL := Lib.hid hlen; clear hlen
  go_enter Try.func63, Try.ntmps63
  go_wp2_with (first | (go_at_call 30; refine h30.mono ?_; rintro e w1 ⟨rfl, rfl⟩) | (go_at_call 67; refine (drive_cap hD).mono ?_; rintro e w1 ⟨rfl, rfl⟩))
  go_loopw [16] (fun i wr => ∃ k : Nat, k ≤ d.cap ∧ i = .int .i64 k ∧ (∀ j, j < k → (fun i => hasB S K (d.get i)) j = false) ∧ Below w.heap.size w wr)
    (fun i _ => d.cap - (intOf i).toNat)
  case atStart => exact ⟨0, by omega, rfl, by omega, Below.refl _ _⟩
  case round =>
    obtain ⟨k, hkc, rfl, hq, hb⟩ := hrel
    have HQ := Lib.hid hq; clear hq
    by_cases hlt : k < d.cap
    · have hDr := hD.below hb
      have hl64 := HL.out k hlt
      cases ho : openF (d.get k) with
      | none =>
        have HO := Lib.hid ho; clear ho
        go_wp2_with (fail)
        refine (drive_read hDr k hlt hk).mono ?_
        rintro e w1 ⟨v1, rfl, hv1, hb1⟩
        obtain ⟨ao1, c1, rfl⟩ := hv1.shape
        go_wp2_with (go_at_call 72; refine (open_none hv1 (by omega) HO.out).mono ?_; rintro e w2 ⟨rfl, hb2⟩)
        have hb3 := (hb.trans (hb1.mono hb.size)).trans (hb2.mono (Nat.le_trans hb.size hb1.size))
        clear hv1 hb1 hb2 hDr hb
        have hqk : (fun i => hasB S K (d.get i)) k = false := by simp [hasB, HO.out]
        refine (find_fn_no _ _ _ x y w2).mono ?_
        rintro e w3 ⟨rfl, rfl⟩
        go_wp2
        go_roundw
        case rel => exact ⟨k + 1, by omega, by go_num, fun j hj => by
          by_cases e : j = k
          · subst e; exact hqk
          · exact HQ.out j (by omega), hb3⟩
        case measure => simp [intOf]; omega
      | some r =>
        obtain ⟨s, p, b⟩ := r
        have HO := Lib.hid ho; clear ho
        go_wp2_with (fail)
        refine (drive_read hDr k hlt hk).mono ?_
        rintro e w1 ⟨v1, rfl, hv1, hb1⟩
        obtain ⟨ao1, c1, rfl⟩ := hv1.shape
        go_wp2_with (go_at_call 72; refine (open_some hv1 (by omega) HO.out).mono ?_; rintro e w2 ⟨bv, rfl, hbv, hb2⟩)
        have hb3 := (hb.trans (hb1.mono hb.size)).trans (hb2.mono (Nat.le_trans hb.size hb1.size))
        clear hv1 hb1 hb2 hDr hb hbv
        have hx2 := (hb3.cell (p := ⟨x, 0, none⟩) (World.block_lt_of_cell? w _ hx)).trans hx
        have hy2 := (hb3.cell (p := ⟨y, 0, none⟩) (World.block_lt_of_cell? w _ hy)).trans hy
        have hfn := find_fn_yes s p S K bv x y w2 hx2 hy2
        have hqe : hasB S K (d.get k) = (((s : Int) == S) && ((p : Int) == K)) := by simp [hasB, HO.out]
        rw [← hqe] at hfn
        clear hx2 hy2 hqe
        cases hqk : hasB S K (d.get k) with
        | false =>
          rw [hqk] at hfn
          have HK := Lib.hid hqk; clear hqk
          refine hfn.mono ?_
          rintro e w3 ⟨rfl, rfl⟩
          clear hfn
          go_wp2
          go_roundw
          case rel => exact ⟨k + 1, by omega, by go_num, fun j hj => by
            by_cases e : j = k
            · subst e; exact HK.out
            · exact HQ.out j (by omega), hb3⟩
          case measure => simp [intOf]; omega
        | true =>
          rw [hqk] at hfn
          have HK := Lib.hid hqk; clear hqk
          refine hfn.mono ?_
          rintro e w3 ⟨rfl, rfl⟩
          clear hfn
          go_wp2
          go_ret
          exact ⟨ret_i64 (by rw [firstIn_some (q := fun i => hasB S K (d.get i)) hlt HK.out HQ.out]; rfl), hb3⟩
    · obtain rfl : k = d.cap := by omega
      go_wp2
      go_ret
      exact ⟨ret_i64 (by rw [firstIn_none HQ.out]; rfl), hb⟩
end Go.Proofs.Fl

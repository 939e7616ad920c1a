import Derived.Test.YtficmalfoeaibaaXF4
import Derived.Test.YtficmalfoeaibaaXG7toG8
import Derived.Test.YtficmalfoeaibaaXG9
namespace Go.Proofs.Fl
open Go.RowKit

def chunkK (d : Bytes) (k : Nat) : List Bytes := (List.range k).map fun i => (d.drop (8 * i)).take 8
theorem chunkK_succ (d : Bytes) (k : Nat) : chunkK d (k + 1) = chunkK d k ++ [(d.drop (8 * k)).take 8] := by simp [chunkK, List.range_succ]
theorem chunkK_length (d : Bytes) (k : Nat) : (chunkK d k).length = k := by simp [chunkK]
theorem chunkK_row (d : Bytes) (k i : Nat) (hi : i < k) (hd : d.length = 8 * k) : ((chunkK d k).getD i []).length = 8 := by
  simp [chunkK, List.getD_eq_getElem?_getD, hi, hd]
  omega
def rencM (k m : Nat) (d : Bytes) : List Bytes := rtimesK (codeM k m) (chunkK d k) (k + m)

set_option maxHeartbeats 2000000 in
set_option maxRecDepth 100000 in
theorem renc_any {S : Nat → Prop} {dv : Value} {d : Bytes} {w : World} (k m : Nat) (hk1 : 1 ≤ k) (hk : k ≤ 4) (hm : m ≤ 3) (hD : Bs w S dv d) (hd : d.length = 8 * k) :
    Calls Try.prog 55 #[.int .i64 k, .int .i64 m, dv] w fun e w' => ∃ v, e = .returned v ∧ TabO w' w.heap.size (Fresh w) v (rencM k m d) ∧ Below w.heap.size w w' := by
  obtain ⟨db, do_, dc, rfl, _, hdb, _⟩ := hD.cellAt (by omega)
  have hcap := hD.cap
  rw [hd] at hD hcap ⊢
  have HD := Lib.hid (hD.mono (T := fun b => b < w.heap.size) (fun b hb _ => hb))
  have HL := Lib.hid hd
  clear hD hd
  go_enter Try.func55, Try.ntmps55
  go_wp2
  go_loopw [7, 8] (fun v i wr => ∃ n : Nat, n ≤ k ∧ i = .int .i64 n ∧ TabO wr w.heap.size (fun b => b < w.heap.size) v (chunkK d n) ∧ Below w.heap.size w wr)
    (fun _ i _ => k - (intOf i).toNat)
  case atStart => exact ⟨0, by omega, rfl, TabO.nil _ _ _, Below.refl _ _⟩
  case round =>
    obtain ⟨n, hn, rfl, ht, hbr⟩ := hrel
    obtain ⟨vs, q1, q2⟩ := ht
    rw [chunkK_length] at q1
    obtain ⟨a1, n1, c1, rfl⟩ := own_shape q1
    have e1 : n = n1 := (own_len q1).symm
    subst e1
    have Q1 := Lib.hid q1; have Q2 := Lib.hid q2
    clear q1 q2
    by_cases hlt : n < k
    · have hcut := (HD.out.below hbr).cut (8 * n) 8 (by omega)
      have hx : Bs wr (fun b => b < w.heap.size ∧ (Value.slice a1 n c1).ownBlock ≠ some b) (.slice (some ⟨db, do_ + 8 * n, none⟩) 8 (dc - 8 * n)) ((d.drop (8 * n)).take 8) :=
        hcut.mono fun b _ h => ⟨h, fun e => by have := (Q1.out.lt b e).1; have h' : b < w.heap.size := h; omega⟩
      have HX := Lib.hid hx
      have hc1 : ¬ dc = 8 * n := by omega
      clear hcut hx
      go_wp2_with (at_builtin; refine wpList_app_new rfl _ _ _ rfl E59 w.heap.size _ 1 Q1.out rfl rfl rfl (by intro u hu; simp at hu; subst hu; rfl) (by omega) (by decide) hbr.size ?_)
      intro v' w5 hown5 hg5 _
      have ht5 := TabO.snoc (rows := chunkK d n) (by rw [chunkK_length]; exact Q1.out) (by rw [chunkK_length]; exact (by simpa [chunkK_length] using Q2.out)) HX.out (by rw [chunkK_length]; exact hown5) hg5
      rw [← chunkK_succ] at ht5
      have hb5 := Grew.new hbr hbr.size hg5 (fun g hg => (Q1.out.lt g hg).1)
      obtain ⟨a2, n2, c2, rfl⟩ := own_shape hown5
      have e2 : n2 = n + 1 := own_len hown5
      subst e2
      have HT5 := Lib.hid ht5; have HB5 := Lib.hid hb5
      clear ht5 hb5 hg5 hown5
      go_wp2
      go_roundw
      case rel => exact ⟨n + 1, by omega, by go_num, HT5.out, HB5.out⟩
      case measure => simp [intOf]; omega
    · obtain rfl : k = n := by omega
      have hT2 : Tb wr (fun _ => True) (.slice a1 k c1) (chunkK d k) := TabO.toTb (base := w.heap.size) (S := fun b => b < w.heap.size) ⟨vs, by rw [chunkK_length]; exact Q1.out, Q2.out⟩ (fun _ _ => trivial) (fun _ _ => trivial)
      have HT2 := Lib.hid hT2
      clear hT2
      go_wp2_with (fail)
      refine (rcode_any k m hk1 hk hm wr).mono ?_
      rintro e w2 ⟨v2, rfl, ht2, hb2⟩
      have hT1 : Tb w2 (fun _ => True) v2 (codeM k m) := ht2.toTb (fun _ _ => trivial) (fun _ _ => trivial)
      have hcl : (codeM k m).length = k + m := codeK_length _ _
      have hfit : Fits (codeM k m) (chunkK d k) 8 := ⟨by omega, by omega, by rw [chunkK_length]; omega, by rw [chunkK_length]; omega, by omega, fun i hi => by
        rw [chunkK_length]
        rw [hcl] at hi
        unfold codeM
        rw [codeK_get _ _ _ hi, rowC_length], fun i hi => by rw [chunkK_length] at hi; exact chunkK_row d k i hi HL.out⟩
      have htm := rtimes_any hT1 (HT2.out.below hb2) 8 hfit
      rw [hcl] at htm
      have HTM := Lib.hid htm
      obtain ⟨ao2, c2, rfl⟩ := hT1.shape
      clear htm hT1 hfit ht2 hcl
      go_wp2_with (fail)
      refine HTM.out.mono ?_
      rintro e w3 ⟨v3, rfl, ht3, hb3⟩
      have hbw2 := hbr.trans (hb2.mono hbr.size)
      have hbw3 := hbw2.trans (hb3.mono hbw2.size)
      have ht4 : TabO w3 w.heap.size (Fresh w) v3 (rencM k m d) := ht3.mono hbw2.size (fun b h => Nat.le_trans hbw2.size h)
      have HT4 := Lib.hid ht4; have HBW := Lib.hid hbw3
      obtain ⟨ao3, c3, rfl⟩ := ht4.shape
      clear ht3 ht4 hbw2 hbw3
      go_wp2
      go_ret
      exact ⟨_, rfl, HT4.out, HBW.out⟩
end Go.Proofs.Fl

import Derived.Test.YtficmalfoeaibaaXF5
import Derived.Test.YtficmalfoeaibaaXG10toG14
namespace Go.Proofs.Fl
/-! ### bytes as a field -/
theorem u8_all (P : UInt8 → Bool) (h : ((List.range 256).all fun n => P (UInt8.ofNat n)) = true) (a : UInt8) : P a = true := by
  have := (List.all_eq_true.1 h) a.toNat (List.mem_range.2 a.toNat_lt)
  rwa [UInt8.ofNat_toNat] at this
theorem and_one_cases (y : UInt8) : y &&& 1 = 0 ∨ y &&& 1 = 1 := by
  have := u8_all (fun y => (y &&& 1 == 0) || (y &&& 1 == 1)) (by decide +kernel) y
  simpa using this
theorem div_cases (y : UInt8) : y / 128 = 0 ∨ y / 128 = 1 := by
  have := u8_all (fun y => (y / 128 == 0) || (y / 128 == 1)) (by decide +kernel) y
  simpa using this
theorem xor_self8 (a : UInt8) : a ^^^ a = 0 := UInt8.xor_self
theorem xor_swap (a b c d : UInt8) : (a ^^^ b) ^^^ (c ^^^ d) = (a ^^^ c) ^^^ (b ^^^ d) := by
  rw [UInt8.xor_assoc, UInt8.xor_assoc, ← UInt8.xor_assoc b, UInt8.xor_comm b c, UInt8.xor_assoc c]
theorem term_left (x z y : UInt8) : (x ^^^ z) * (y &&& 1) = x * (y &&& 1) ^^^ z * (y &&& 1) := by
  rcases and_one_cases y with h | h <;> rw [h] <;> simp
theorem and_xor8 (y z k : UInt8) : (y ^^^ z) &&& k = (y &&& k) ^^^ (z &&& k) := by
  apply UInt8.toNat.inj
  rw [UInt8.toNat_and, UInt8.toNat_xor, UInt8.toNat_xor, UInt8.toNat_and, UInt8.toNat_and]
  exact Nat.and_xor_distrib_right ..
theorem term_right (x y z : UInt8) : x * ((y ^^^ z) &&& 1) = x * (y &&& 1) ^^^ x * (z &&& 1) := by
  rw [and_xor8]
  rcases and_one_cases y with h | h <;> rcases and_one_cases z with h' | h' <;> rw [h, h'] <;> simp
theorem shr_xor (y z k : UInt8) : (y ^^^ z) >>> k = (y >>> k) ^^^ (z >>> k) := by
  apply UInt8.toNat.inj
  rw [UInt8.toNat_shiftRight, UInt8.toNat_xor, UInt8.toNat_xor, UInt8.toNat_shiftRight, UInt8.toNat_shiftRight, Nat.shiftRight_xor_distrib]
theorem div128 (y : UInt8) : y / (128 : UInt8) = y >>> (7 : UInt8) := by
  have := u8_all (fun y : UInt8 => y / (128 : UInt8) == y >>> (7 : UInt8)) (by decide +kernel) y
  simpa using this
def xt (x : UInt8) : UInt8 := x <<< 1 ^^^ 29 * (x / 128)
theorem shl_xor (y z : UInt8) : (y ^^^ z) <<< 1 = (y <<< 1) ^^^ (z <<< 1) := by
  apply UInt8.toNat.inj
  rw [UInt8.toNat_shiftLeft, UInt8.toNat_xor, UInt8.toNat_xor, UInt8.toNat_shiftLeft, UInt8.toNat_shiftLeft, Nat.shiftLeft_xor_distrib, Nat.xor_mod_two_pow]
theorem xt_xor (a b : UInt8) : xt (a ^^^ b) = xt a ^^^ xt b := by
  unfold xt
  rw [shl_xor, xor_swap]
  congr 1
  rw [div128, shr_xor, ← div128, ← div128]
  rcases div_cases a with h | h <;> rcases div_cases b with h' | h' <;> rw [h, h'] <;> simp
theorem mulS_succ (k : Nat) (s : UInt8 × UInt8 × UInt8) : mulS (k + 1) s = ((mulS k s).1 ^^^ (mulS k s).2.1 * ((mulS k s).2.2 &&& 1), xt (mulS k s).2.1, (mulS k s).2.2 >>> 1) := rfl
theorem mulS_b (k : Nat) (a c b : UInt8) : (mulS k (0, a, b)).2.2 = (mulS k (0, c, b)).2.2 ∧ (mulS k (0, a, b)).2.1 = (mulS k (0, a, c)).2.1 := by
  induction k with
  | zero => exact ⟨rfl, rfl⟩
  | succ k ih => rw [mulS_succ, mulS_succ, mulS_succ]; exact ⟨by show (mulS k (0, a, b)).2.2 >>> (1 : UInt8) = (mulS k (0, c, b)).2.2 >>> (1 : UInt8); rw [ih.1], by show xt (mulS k (0, a, b)).2.1 = xt (mulS k (0, a, c)).2.1; rw [ih.2]⟩
theorem mulS_left (k : Nat) (a c b : UInt8) : (mulS k (0, a ^^^ c, b)).1 = (mulS k (0, a, b)).1 ^^^ (mulS k (0, c, b)).1 ∧ (mulS k (0, a ^^^ c, b)).2.1 = (mulS k (0, a, b)).2.1 ^^^ (mulS k (0, c, b)).2.1 := by
  induction k with
  | zero => exact ⟨by simp [mulS], rfl⟩
  | succ k ih =>
    rw [mulS_succ, mulS_succ, mulS_succ]
    refine ⟨?_, by show xt _ = xt _ ^^^ xt _; rw [ih.2, xt_xor]⟩
    show (mulS k (0, a ^^^ c, b)).1 ^^^ (mulS k (0, a ^^^ c, b)).2.1 * ((mulS k (0, a ^^^ c, b)).2.2 &&& 1) = _
    rw [ih.1, ih.2, term_left, (mulS_b k (a ^^^ c) a b).1, (mulS_b k c a b).1, xor_swap]
theorem mulS_right (k : Nat) (a b c : UInt8) : (mulS k (0, a, b ^^^ c)).1 = (mulS k (0, a, b)).1 ^^^ (mulS k (0, a, c)).1 ∧ (mulS k (0, a, b ^^^ c)).2.2 = (mulS k (0, a, b)).2.2 ^^^ (mulS k (0, a, c)).2.2 := by
  induction k with
  | zero => exact ⟨by simp [mulS], rfl⟩
  | succ k ih =>
    rw [mulS_succ, mulS_succ, mulS_succ]
    obtain ⟨X, hX⟩ : ∃ X, ∀ b, (mulS k (0, a, b)).2.1 = X := ⟨_, fun b => (mulS_b k a 0 b).2⟩
    refine ⟨?_, by show (mulS k (0, a, b ^^^ c)).2.2 >>> (1 : UInt8) = (mulS k (0, a, b)).2.2 >>> (1 : UInt8) ^^^ (mulS k (0, a, c)).2.2 >>> (1 : UInt8); rw [ih.2, shr_xor]⟩
    show (mulS k (0, a, b ^^^ c)).1 ^^^ (mulS k (0, a, b ^^^ c)).2.1 * ((mulS k (0, a, b ^^^ c)).2.2 &&& 1) = ((mulS k (0, a, b)).1 ^^^ (mulS k (0, a, b)).2.1 * ((mulS k (0, a, b)).2.2 &&& 1)) ^^^ ((mulS k (0, a, c)).1 ^^^ (mulS k (0, a, c)).2.1 * ((mulS k (0, a, c)).2.2 &&& 1))
    rw [ih.1, ih.2, hX, hX, hX, term_right, xor_swap]
theorem gmul_left (a c b : UInt8) : gmul (a ^^^ c) b = gmul a b ^^^ gmul c b := (mulS_left 8 a c b).1
theorem gmul_right (a b c : UInt8) : gmul a (b ^^^ c) = gmul a b ^^^ gmul a c := (mulS_right 8 a b c).1
theorem gmul_zero (b : UInt8) : gmul 0 b = 0 := by
  have := gmul_left 0 0 b
  rw [xor_self8, xor_self8] at this
  exact this
theorem gmul_zero' (a : UInt8) : gmul a 0 = 0 := by
  have := gmul_right a 0 0
  rw [xor_self8, xor_self8] at this
  exact this
def bits8 : List UInt8 := [1, 2, 4, 8, 16, 32, 64, 128]
theorem bits_ind (P : UInt8 → Prop) (h0 : P 0) (hx : ∀ a b, P a → P b → P (a ^^^ b)) (h : ∀ i, i ∈ bits8 → P i) (a : UInt8) : P a := by
  have e := u8_all (fun a => a == (a &&& 1) ^^^ ((a &&& 2) ^^^ ((a &&& 4) ^^^ ((a &&& 8) ^^^ ((a &&& 16) ^^^ ((a &&& 32) ^^^ ((a &&& 64) ^^^ (a &&& 128)))))))) (by decide +kernel) a
  have c := u8_all (fun a => bits8.all fun i => (a &&& i == 0) || (a &&& i == i)) (by decide +kernel) a
  have p : ∀ i, i ∈ bits8 → P (a &&& i) := by
    intro i hi
    have := (List.all_eq_true.1 c) i hi
    simp only [Bool.or_eq_true, beq_iff_eq] at this
    rcases this with q | q
    · rw [q]; exact h0
    · rw [q]; exact h i hi
  rw [eq_of_beq e]
  have m : ∀ i, i ∈ [(1 : UInt8), 2, 4, 8, 16, 32, 64, 128] → P (a &&& i) := p
  simp only [List.mem_cons, List.not_mem_nil, or_false, forall_eq_or_imp, forall_eq] at m
  obtain ⟨m1, m2, m3, m4, m5, m6, m7, m8⟩ := m
  exact hx _ _ m1 (hx _ _ m2 (hx _ _ m3 (hx _ _ m4 (hx _ _ m5 (hx _ _ m6 (hx _ _ m7 m8))))))
theorem gmul_assoc (a b c : UInt8) : gmul (gmul a b) c = gmul a (gmul b c) := by
  have h : (bits8.all fun a => bits8.all fun b => bits8.all fun c => gmul (gmul a b) c == gmul a (gmul b c)) = true := by decide +kernel
  refine bits_ind (fun a => gmul (gmul a b) c = gmul a (gmul b c)) ?_ ?_ (fun a ha => ?_) a
  · simp only [gmul_zero]
  · intro x y hx hy; simp only [gmul_left]; rw [hx, hy]
  · refine bits_ind (fun b => gmul (gmul a b) c = gmul a (gmul b c)) ?_ ?_ (fun b hb => ?_) b
    · simp only [gmul_zero, gmul_zero']
    · intro x y hx hy; simp only [gmul_left, gmul_right]; rw [hx, hy]
    · refine bits_ind (fun c => gmul (gmul a b) c = gmul a (gmul b c)) ?_ ?_ (fun c hc => ?_) c
      · simp only [gmul_zero']
      · intro x y hx hy; simp only [gmul_right]; rw [hx, hy]
      · exact eq_of_beq ((List.all_eq_true.1 ((List.all_eq_true.1 ((List.all_eq_true.1 h) a ha)) b hb)) c hc)
theorem gmul_comm (a b : UInt8) : gmul a b = gmul b a := by
  have h : (bits8.all fun a => bits8.all fun b => gmul a b == gmul b a) = true := by decide +kernel
  refine bits_ind (fun a => gmul a b = gmul b a) ?_ ?_ (fun a ha => ?_) a
  · simp only [gmul_zero, gmul_zero']
  · intro x y hx hy; simp only [gmul_left, gmul_right]; rw [hx, hy]
  · refine bits_ind (fun b => gmul a b = gmul b a) ?_ ?_ (fun b hb => ?_) b
    · simp only [gmul_zero, gmul_zero']
    · intro x y hx hy; simp only [gmul_left, gmul_right]; rw [hx, hy]
    · exact eq_of_beq ((List.all_eq_true.1 ((List.all_eq_true.1 h) a ha)) b hb)
theorem gmul_one (a : UInt8) : gmul a 1 = a := by
  have := u8_all (fun a => gmul a 1 == a) (by decide +kernel) a
  exact eq_of_beq this
theorem one_gmul (a : UInt8) : gmul 1 a = a := by rw [gmul_comm, gmul_one]
/-! the reference's product is the same -/
theorem xorN_swap (a b c d : Nat) : (a ^^^ b) ^^^ (c ^^^ d) = (a ^^^ c) ^^^ (b ^^^ d) := by
  rw [Nat.xor_assoc, Nat.xor_assoc, ← Nat.xor_assoc b, Nat.xor_comm b c, Nat.xor_assoc c]
theorem bitN_xor (a b i : Nat) : (a ^^^ b) / 2 ^ i % 2 = (a / 2 ^ i % 2 + b / 2 ^ i % 2) % 2 := by
  have e : ∀ x : Nat, x / 2 ^ i % 2 = (x.testBit i).toNat := fun x => by rw [Nat.testBit_eq_decide_div_mod_eq]; rcases Nat.mod_two_eq_zero_or_one (x / 2 ^ i) with h | h <;> simp [h]
  rw [e, e, e, Nat.testBit_xor]
  cases a.testBit i <;> cases b.testBit i <;> rfl
theorem rmulA_left (a c b k : Nat) : rmulA (a ^^^ c) b k = rmulA a b k ^^^ rmulA c b k := by
  induction k with
  | zero => simp [rmulA]
  | succ k ih =>
    unfold rmulA
    have e : (a ^^^ c) * 2 ^ k = a * 2 ^ k ^^^ c * 2 ^ k := by
      rw [← Nat.shiftLeft_eq, ← Nat.shiftLeft_eq, ← Nat.shiftLeft_eq, Nat.shiftLeft_xor_distrib]
    split
    · rw [ih, e, xorN_swap]
    · exact ih
theorem rmulA_right (a b c k : Nat) : rmulA a (b ^^^ c) k = rmulA a b k ^^^ rmulA a c k := by
  induction k with
  | zero => simp [rmulA]
  | succ k ih =>
    unfold rmulA
    have e := bitN_xor b c k
    rcases Nat.mod_two_eq_zero_or_one (b / 2 ^ k) with h | h <;> rcases Nat.mod_two_eq_zero_or_one (c / 2 ^ k) with h' | h' <;> rw [h, h'] at e <;> rw [e, ih, h, h'] <;> simp
    · rw [Nat.xor_assoc]
    · rw [Nat.xor_assoc, Nat.xor_assoc, Nat.xor_comm (a * 2 ^ k)]
    · rw [xorN_swap, Nat.xor_self, Nat.xor_zero]
theorem rmulB_xor (v u j : Nat) : rmulB (v ^^^ u) j = rmulB v j ^^^ rmulB u j := by
  induction j with
  | zero => rfl
  | succ j ih =>
    unfold rmulB
    rw [ih]
    have e := bitN_xor (rmulB v j) (rmulB u j) (14 - j)
    rcases Nat.mod_two_eq_zero_or_one (rmulB v j / 2 ^ (14 - j)) with h | h <;> rcases Nat.mod_two_eq_zero_or_one (rmulB u j / 2 ^ (14 - j)) with h' | h' <;> rw [h, h'] at e <;> rw [e, h, h'] <;> simp
    · rw [Nat.xor_assoc]
    · rw [Nat.xor_assoc, Nat.xor_assoc, Nat.xor_comm (285 * 2 ^ (14 - j - 8))]
    · rw [xorN_swap, Nat.xor_self, Nat.xor_zero]
theorem ofNat_xor (a b : Nat) : UInt8.ofNat (a ^^^ b) = UInt8.ofNat a ^^^ UInt8.ofNat b := by
  apply UInt8.toNat.inj
  rw [UInt8.toNat_xor, UInt8.toNat_ofNat', UInt8.toNat_ofNat', UInt8.toNat_ofNat']
  exact Nat.xor_mod_two_pow (n := 8)
theorem rmul_left (a c b : UInt8) : rmul (a ^^^ c) b = rmul a b ^^^ rmul c b := by
  unfold rmul; rw [UInt8.toNat_xor, rmulA_left, rmulB_xor, ofNat_xor]
theorem rmul_right (a b c : UInt8) : rmul a (b ^^^ c) = rmul a b ^^^ rmul a c := by
  unfold rmul; rw [UInt8.toNat_xor, rmulA_right, rmulB_xor, ofNat_xor]
theorem rmul_zero (b : UInt8) : rmul 0 b = 0 := by
  have := rmul_left 0 0 b
  rw [xor_self8, xor_self8] at this
  exact this
theorem rmul_zero' (a : UInt8) : rmul a 0 = 0 := by
  have := rmul_right a 0 0
  rw [xor_self8, xor_self8] at this
  exact this
theorem rmul_gmul (a b : UInt8) : rmul a b = gmul a b := by
  have h : (bits8.all fun a => bits8.all fun b => rmul a b == gmul a b) = true := by decide +kernel
  refine bits_ind (fun a => rmul a b = gmul a b) ?_ ?_ (fun a ha => ?_) a
  · simp only [gmul_zero, rmul_zero]
  · intro x y hx hy; rw [gmul_left, rmul_left, hx, hy]
  · refine bits_ind (fun b => rmul a b = gmul a b) ?_ ?_ (fun b hb => ?_) b
    · simp only [rmul_zero', gmul_zero']
    · intro x y hx hy; rw [gmul_right, rmul_right, hx, hy]
    · exact eq_of_beq ((List.all_eq_true.1 ((List.all_eq_true.1 h) a ha)) b hb)
/-! sums of bytes -/
def xsum (f : Nat → UInt8) : Nat → UInt8
  | 0 => 0
  | n + 1 => xsum f n ^^^ f n
theorem xsum_congr {f g : Nat → UInt8} (n : Nat) (h : ∀ i, i < n → f i = g i) : xsum f n = xsum g n := by
  induction n with
  | zero => rfl
  | succ n ih => unfold xsum; rw [ih fun i hi => h i (by omega), h n (by omega)]
theorem xsum_add (f g : Nat → UInt8) (n : Nat) : xsum (fun i => f i ^^^ g i) n = xsum f n ^^^ xsum g n := by
  induction n with
  | zero => simp [xsum]
  | succ n ih => unfold xsum; rw [ih, xor_swap]
theorem xsum_zero (n : Nat) : xsum (fun _ => 0) n = 0 := by
  induction n with
  | zero => rfl
  | succ n ih => unfold xsum; rw [ih]; rfl
theorem xsum_mul (a : UInt8) (f : Nat → UInt8) (n : Nat) : gmul a (xsum f n) = xsum (fun i => gmul a (f i)) n := by
  induction n with
  | zero => exact gmul_zero' a
  | succ n ih => unfold xsum; rw [gmul_right, ih]
theorem xsum_mulr (a : UInt8) (f : Nat → UInt8) (n : Nat) : gmul (xsum f n) a = xsum (fun i => gmul (f i) a) n := by
  rw [gmul_comm, xsum_mul]; exact xsum_congr n fun i _ => gmul_comm _ _
theorem xsum_comm (f : Nat → Nat → UInt8) (n m : Nat) : xsum (fun i => xsum (fun j => f i j) m) n = xsum (fun j => xsum (fun i => f i j) n) m := by
  induction n with
  | zero => exact (xsum_zero m).symm
  | succ n ih =>
    show xsum (fun i => xsum (fun j => f i j) m) n ^^^ xsum (fun j => f n j) m = _
    rw [ih, ← xsum_add]; rfl
theorem xsum_pick (x : Nat → UInt8) (i n : Nat) (h : i < n) : xsum (fun l => gmul (if i = l then 1 else 0) (x l)) n = x i := by
  have h0 : ∀ n, n ≤ i → xsum (fun l => gmul (if i = l then 1 else 0) (x l)) n = 0 := by
    intro n
    induction n with
    | zero => intro _; rfl
    | succ n ih => intro hn; unfold xsum; rw [ih (by omega), if_neg (by omega), gmul_zero]; rfl
  induction n with
  | zero => omega
  | succ n ih =>
    unfold xsum
    by_cases e : i = n
    · rw [h0 n (by omega), if_pos e, one_gmul, e]; simp
    · rw [ih (by omega), if_neg e, gmul_zero]; simp
end Go.Proofs.Fl

namespace Go.Proofs.Fl

/-! ### what is taken of a coded stripe gives the data again -/
theorem addS_get0 (r l : Bytes) (x : UInt8) (j : Nat) (hj : j < r.length) : (addS r l x).getD j 0 = r.getD j 0 ^^^ gmul x (l.getD j 0) := by
  unfold addS
  rw [addK_get _ _ _ _ _ hj]
  split
  · rfl
  · rename_i h
    have : l.getD j 0 = 0 := by simp [List.getD_eq_getElem?_getD, List.getElem?_eq_none (Nat.le_of_not_lt h)]
    rw [this, gmul_zero']; simp
theorem zeros_get (c j : Nat) : (List.replicate c (0 : UInt8)).getD j 0 = 0 := by
  simp [List.getD_eq_getElem?_getD, List.getElem?_replicate]; split <;> rfl
theorem sumK_get (r : Bytes) (rb : List Bytes) (c n j : Nat) (hj : j < c) : (sumK r rb c n).getD j 0 = xsum (fun a => gmul (r.getD a 0) ((rb.getD a []).getD j 0)) n := by
  induction n with
  | zero => exact zeros_get c j
  | succ n ih => unfold sumK xsum; rw [addS_get0 _ _ _ _ (by rw [sumK_length]; exact hj), ih]
theorem dotK_sum (r : Bytes) (rb : List Bytes) (j k : Nat) : dotK r rb j k = xsum (fun a => gmul (r.getD a 0) ((rb.getD a []).getD j 0)) k := by
  induction k with
  | zero => rfl
  | succ k ih => unfold dotK xsum; rw [ih, rmul_gmul]
theorem rowR_sum (r : Bytes) (rb : List Bytes) (c : Nat) : rowR r rb c = sumK r rb c rb.length := by
  apply bytes_ext
  · unfold rowR; rw [rowT_length, sumK_length]
  · intro i hi
    unfold rowR at hi ⊢
    rw [rowT_length] at hi
    rw [rowT_get _ _ _ _ _ _ hi, if_pos hi, sumK_get _ _ _ _ _ hi, dotK_sum]
theorem rtimes_times (ra rb : List Bytes) (n : Nat) : rtimesK ra rb n = timesK ra rb n := by
  unfold rtimesK timesK
  exact List.map_congr_left fun i _ => rowR_sum _ _ _
theorem codeM_length (k m : Nat) : (codeM k m).length = k + m := by simp [codeM, codeK]
theorem codeM_get (k m i : Nat) (hi : i < k + m) : (codeM k m).getD i [] = rowC k i := codeK_get _ _ _ hi
theorem renc_code (k m : Nat) (d : Bytes) : rencM k m d = timesM (codeM k m) (chunkK d k) := by
  unfold rencM
  rw [rtimes_times]
  have := timesK_all (codeM k m) (chunkK d k) fun i hi => by
    rw [codeM_length] at hi
    rw [codeM_get _ _ _ hi, rowC_length, chunkK_length]
  rw [codeM_length] at this
  exact this
theorem chunk_row0 (d : Bytes) (k : Nat) (hk : 1 ≤ k) (hd : d.length = 8 * k) : ((chunkK d k).getD 0 []).length = 8 := chunkK_row d k 0 (by omega) hd
theorem renc_length (k m : Nat) (d : Bytes) : (rencM k m d).length = k + m := by unfold rencM; exact rtimesK_length _ _ _
theorem renc_get (k m : Nat) (d : Bytes) (hk : 1 ≤ k) (hd : d.length = 8 * k) (i : Nat) (hi : i < k + m) : (rencM k m d).getD i [] = sumK (rowC k i) (chunkK d k) 8 k := by
  unfold rencM
  rw [rtimes_times]
  unfold timesK
  rw [List.getD_eq_getElem?_getD, List.getElem?_map, List.getElem?_range hi, Option.map_some, Option.getD_some, codeM_get _ _ _ hi, chunk_row0 _ _ hk hd, chunkK_length]
theorem renc_row (k m : Nat) (d : Bytes) (hk : 1 ≤ k) (hd : d.length = 8 * k) (i : Nat) (hi : i < k + m) : ((rencM k m d).getD i []).length = 8 := by
  rw [renc_get k m d hk hd i hi, sumK_length]

end Go.Proofs.Fl

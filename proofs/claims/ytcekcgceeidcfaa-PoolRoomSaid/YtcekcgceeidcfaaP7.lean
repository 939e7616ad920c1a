import Derived.Test.YtcekcgceeidcfaaP6
namespace Go.Proofs.Fl
open Go.RowKit

def PM.get (m : PM) (i : Nat) : DM := m.list.getD i dNone
def PM.setD (m : PM) (i : Nat) (d : DM) : PM := { m with list := m.list.set i d }
def DM.find (d : DM) (S K : Int) : Option Nat := firstIn (fun j => hasB S K (d.get j)) d.cap
def DM.free1 (d : DM) : Option Nat := firstIn (fun j => (openF (d.get j)).isNone) d.cap
theorem burn_list (m : PM) : m.burn.2.list = m.list := by unfold PM.burn; split <;> (try split) <;> rfl
theorem burn_get (m : PM) (i : Nat) : m.burn.2.get i = m.get i := by unfold PM.get; rw [burn_list]
theorem find_lt {d : DM} {S K : Int} {j : Nat} (h : d.find S K = some j) : j < d.cap := (firstIn_spec h).1
theorem free1_lt {d : DM} {j : Nat} (h : d.free1 = some j) : j < d.cap := (firstIn_spec h).1

theorem PStep.of {w w1 w2 : World} {F : Nat → Prop} {pb : Nat} {m' : PM} (hF : ∀ b, F b → b < w.heap.size) (h1 : Mod F w w1) (h2 : PStep w1 F pb m' w2) : PStep w F pb m' w2 := by
  refine ⟨h1.trans h2.mod, ?_⟩
  obtain ⟨lv, dbs, G, h⟩ := h2.at_
  have hs1 := h1.size
  have hs2 := h2.mod.size
  have hE : ∀ b, Ext F w1 w2 b → Ext F w w2 b := fun b hb => by
    rcases hb with hb | hb
    · exact .inl hb
    · exact .inr ⟨by omega, hb.2⟩
  exact ⟨lv, dbs, G, { h with
    here := Ext.here hF (by omega)
    fpb := hE _ h.fpb
    ownF := fun g hg => ⟨hE _ (h.ownF g hg).1, (h.ownF g hg).2⟩
    sub := fun i b hb => ⟨hE _ (h.sub i b hb).1, (h.sub i b hb).2⟩ }⟩
theorem PStep.same {w w' : World} {F : Nat → Prop} {pb : Nat} {m : PM} {lv : Value} {dbs : List Nat} {G : Nat → Nat → Prop} (h : PoolIn w' F pb lv dbs G m) (hm : Mod F w w') : PStep w F pb m w' :=
  ⟨hm, lv, dbs, G, h.ext w⟩
theorem PoolIn.pstep {w w' : World} {F : Nat → Prop} {pb : Nat} {m : PM} {lv : Value} {dbs : List Nat} {G : Nat → Nat → Prop} (h : PoolIn w F pb lv dbs G m) (hb : Below w.heap.size w w') : PStep w F pb m w' :=
  PStep.same (h.kept (Mod.of_below (fun _ => False) hb) fun _ _ => id) (Mod.of_below F hb)

def PM.write (m : PM) (i j : Nat) (l : Bytes) : Nat × PM :=
  if m.burn.1 then (0, m.burn.2.setD i ((m.get i).put j l)) else (9, m.burn.2)

set_option maxHeartbeats 800000 in
set_option maxRecDepth 100000 in
theorem pool_write {w : World} {F S : Nat → Prop} {pb : Nat} {lv : Value} {dbs : List Nat} {G : Nat → Nat → Prop} {m : PM} (h : PoolIn w F pb lv dbs G m) (i j : Nat) (hi : i < m.list.length) (hj : j < (m.get i).cap) (hk : (m.get i).loose.length ≤ 1000000000)
    {v : Value} {l : Bytes} (hB : Bs w S v l) (hS : ∀ b, S b → b ≠ pb) (hl : l.length ≤ 64) :
    Calls Try.prog 65 #[.pointer (some ⟨pb, 0, none⟩), .int .i64 i, .int .i64 j, v] w fun e w' => e = .returned (.int .i64 (m.write i j l).1) ∧ PStep w F pb (m.write i j l).2 w' := by
  have hbu := pool_burn h
  obtain ⟨aov, cv, rfl⟩ := hB.shape
  have hFh := h.here
  have hfp := h.fpb
  unfold PM.write
  cases hbn : m.burn.1 with
  | false =>
    rw [hbn] at hbu
    have H := Lib.hid hFh; clear h hFh hB
    simp only [Bool.false_eq_true, if_false]
    clear hbn
    go_enter Try.func65, Try.ntmps65
    go_wp2_with (fail)
    refine hbu.mono ?_
    rintro e w1 ⟨rfl, hm, h1⟩
    have R := Lib.hid (PStep.same h1 (hm.mono (T := F) fun k _ e => e ▸ hfp))
    clear hbu h1 hm
    go_wp2
    go_ret
    exact ⟨rfl, R.out⟩
  | true =>
    rw [hbn] at hbu
    have H := Lib.hid hFh; clear h hFh
    simp only [if_true]
    clear hbn
    go_enter Try.func65, Try.ntmps65
    go_wp2_with (fail)
    refine hbu.mono ?_
    rintro e w1 ⟨rfl, hm, h1⟩
    have hi1 : i < m.burn.2.list.length := by rw [burn_list]; exact hi
    obtain ⟨ao, cap, ob, rfl, rfl, hcell⟩ := h1.cell i hi1
    have h0 : w1.cell? ⟨pb, 0, none⟩ = some _ := blk_cell h1.blk rfl
    have hat := h1.at_ i hi1
    have eg : m.burn.2.list.getD i dNone = m.get i := burn_get m i
    rw [eg] at hat
    have hB1 := hB.kept hm fun k _ hk => hS k hk
    have hd := fun d' w' => h1.drive i hi1 d' (w' := w')
    have hmF : Mod F w w1 := hm.mono fun k _ e => e ▸ hfp
    have hi1' : (i : Int) < (m.burn.2.list.length : Int) := by omega
    have hp := drive_put hat j hj hk hB1 hl
    have HD := Lib.hid hd; have HP := Lib.hid hp; have HM := Lib.hid hmF
    clear hd hp hmF h1 hat hm hB1 hB eg hbu
    go_wp2_with (fail)
    refine HP.out.mono ?_
    rintro e w2 ⟨rfl, hs⟩
    have R := Lib.hid (PStep.of H.out HM.out (HD.out _ _ hs))
    clear hs
    go_wp2
    go_ret
    exact ⟨rfl, R.out⟩
end Go.Proofs.Fl

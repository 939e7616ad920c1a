/-
  No cell of these rows narrows 'for every input' (looked for: loops, veiled, ifaces, maps, wideKeys, modest, calm, conditions, laid).
  DERIVED. THE GIVEN ROWS OF THIS SEAT. 15 by the template 'for every input the law returns true; each argument reads behind the call as it read before'; 0 by the template 'total and deterministic' (their statements: YtficmalfoeaibaaTotals.lean).
  GIVEN WITH THE SEED: the statements are not yours to turn. If you find one false, say at which input.
  Laid BY PROGRAM, IN A SANDBOX (cutbox-rows.mjs): the forced cells as the released guide's own fill.sh prints them over the translation 73372523d94b62fb… (all of the seat's roots in one cut). By AI agents, Wed Nov 11 2026. No macro, syntax, notation, axiom, sorry.
-/
import Derived.Test.YtficmalfoeaibaaChecked
import GoSem.Claim
import GoSem.ClaimJoined
import GoSem.ClaimMapViews
import Derived.JoinedTies
import Derived.KernelRfl
namespace Go.Proofs.Ytficmalfoeaibaa
/- THE CELL 'sum', in the pinned program and in every row, IS THE sha256 OF THE DUMP (.gsa) THAT YtficmalfoeaibaaProg.lean LOADS. Nothing in Lean hashes anything: it is a label: what it is worth is what the hold of that sum in a sandbox is worth. -/
noncomputable def Try.pinned : Pinned := { name := "ytficmalfoeaibaa", sum := "73372523d94b62fba18d3a9b9e69aa970b5234f504fce2bebe8804b035d666f9", checked := Try.checked }
namespace Rows
def none {H : Type} : Left H := { results := [], args := [] }

/-- 'flittinglaw08.PoolRoom': WHATEVER THE INPUT: true; the input reads as it did. -/
def poolRoomSpec : ChangeSpec := { name := "poolRoom", fn := fun _ => fun
  | [d1, d2] => { results := [.lit (.bool true)], args := [d1, d2] }
  | _ => none }
def poolRoomRow : OpenClaim := { program := "ytficmalfoeaibaa", sum := "73372523d94b62fba18d3a9b9e69aa970b5234f504fce2bebe8804b035d666f9", func := "flitting/flittinglaw08.PoolRoom", spec := "poolRoom", unfollowed := true, recurses := true, apart := false }
def PoolRoomSaid : Prop := poolRoomRow.holds Try.pinned (OpenSpec.ofChange poolRoomSpec)

/-- ITS FALSE NEIGHBOUR: 'it returns false'. Refute it at one input. -/
def poolRoomWrong : ChangeSpec := { name := "poolRoom", fn := fun _ => fun
  | [d1, d2] => { results := [.lit (.bool false)], args := [d1, d2] }
  | _ => none }
def PoolRoomWrongFalsely : Prop := poolRoomRow.holds Try.pinned (OpenSpec.ofChange poolRoomWrong)

/-- 'flittinglaw08.PoolFuse': WHATEVER THE INPUT: true; the input reads as it did. -/
def poolFuseSpec : ChangeSpec := { name := "poolFuse", fn := fun _ => fun
  | [d1, d2] => { results := [.lit (.bool true)], args := [d1, d2] }
  | _ => none }
def poolFuseRow : OpenClaim := { program := "ytficmalfoeaibaa", sum := "73372523d94b62fba18d3a9b9e69aa970b5234f504fce2bebe8804b035d666f9", func := "flitting/flittinglaw08.PoolFuse", spec := "poolFuse", unfollowed := true, recurses := true, apart := false }
def PoolFuseSaid : Prop := poolFuseRow.holds Try.pinned (OpenSpec.ofChange poolFuseSpec)

/-- ITS FALSE NEIGHBOUR: 'it returns false'. Refute it at one input. -/
def poolFuseWrong : ChangeSpec := { name := "poolFuse", fn := fun _ => fun
  | [d1, d2] => { results := [.lit (.bool false)], args := [d1, d2] }
  | _ => none }
def PoolFuseWrongFalsely : Prop := poolFuseRow.holds Try.pinned (OpenSpec.ofChange poolFuseWrong)

/-- 'flittinglaw08.PoolLasts': WHATEVER THE INPUT: true; the input reads as it did. -/
def poolLastsSpec : ChangeSpec := { name := "poolLasts", fn := fun _ => fun
  | [d1, d2, d3] => { results := [.lit (.bool true)], args := [d1, d2, d3] }
  | _ => none }
def poolLastsRow : OpenClaim := { program := "ytficmalfoeaibaa", sum := "73372523d94b62fba18d3a9b9e69aa970b5234f504fce2bebe8804b035d666f9", func := "flitting/flittinglaw08.PoolLasts", spec := "poolLasts", unfollowed := true, recurses := true, apart := false }
def PoolLastsSaid : Prop := poolLastsRow.holds Try.pinned (OpenSpec.ofChange poolLastsSpec)

/-- ITS FALSE NEIGHBOUR: 'it returns false'. Refute it at one input. -/
def poolLastsWrong : ChangeSpec := { name := "poolLasts", fn := fun _ => fun
  | [d1, d2, d3] => { results := [.lit (.bool false)], args := [d1, d2, d3] }
  | _ => none }
def PoolLastsWrongFalsely : Prop := poolLastsRow.holds Try.pinned (OpenSpec.ofChange poolLastsWrong)

/-- 'flittinglaw08.PoolNone': WHATEVER THE INPUT: true; the input reads as it did. -/
def poolNoneSpec : ChangeSpec := { name := "poolNone", fn := fun _ => fun
  | [d1, d2, d3] => { results := [.lit (.bool true)], args := [d1, d2, d3] }
  | _ => none }
def poolNoneRow : OpenClaim := { program := "ytficmalfoeaibaa", sum := "73372523d94b62fba18d3a9b9e69aa970b5234f504fce2bebe8804b035d666f9", func := "flitting/flittinglaw08.PoolNone", spec := "poolNone", unfollowed := true, recurses := true, apart := false }
def PoolNoneSaid : Prop := poolNoneRow.holds Try.pinned (OpenSpec.ofChange poolNoneSpec)

/-- ITS FALSE NEIGHBOUR: 'it returns false'. Refute it at one input. -/
def poolNoneWrong : ChangeSpec := { name := "poolNone", fn := fun _ => fun
  | [d1, d2, d3] => { results := [.lit (.bool false)], args := [d1, d2, d3] }
  | _ => none }
def PoolNoneWrongFalsely : Prop := poolNoneRow.holds Try.pinned (OpenSpec.ofChange poolNoneWrong)

/-- 'flittinglaw08.PoolPlays': WHATEVER THE INPUT: true; the input reads as it did. -/
def poolPlaysSpec : ChangeSpec := { name := "poolPlays", fn := fun _ => fun
  | [d1, d2] => { results := [.lit (.bool true)], args := [d1, d2] }
  | _ => none }
def poolPlaysRow : OpenClaim := { program := "ytficmalfoeaibaa", sum := "73372523d94b62fba18d3a9b9e69aa970b5234f504fce2bebe8804b035d666f9", func := "flitting/flittinglaw08.PoolPlays", spec := "poolPlays", unfollowed := true, recurses := true, apart := false }
def PoolPlaysSaid : Prop := poolPlaysRow.holds Try.pinned (OpenSpec.ofChange poolPlaysSpec)

/-- ITS FALSE NEIGHBOUR: 'it returns false'. Refute it at one input. -/
def poolPlaysWrong : ChangeSpec := { name := "poolPlays", fn := fun _ => fun
  | [d1, d2] => { results := [.lit (.bool false)], args := [d1, d2] }
  | _ => none }
def PoolPlaysWrongFalsely : Prop := poolPlaysRow.holds Try.pinned (OpenSpec.ofChange poolPlaysWrong)

/-- 'flittinglaw15.ShardOther': WHATEVER THE INPUT: true; the input reads as it did. -/
def shardOtherSpec : ChangeSpec := { name := "shardOther", fn := fun _ => fun
  | [d1, d2] => { results := [.lit (.bool true)], args := [d1, d2] }
  | _ => none }
def shardOtherRow : OpenClaim := { program := "ytficmalfoeaibaa", sum := "73372523d94b62fba18d3a9b9e69aa970b5234f504fce2bebe8804b035d666f9", func := "flitting/flittinglaw15.ShardOther", spec := "shardOther", inPlace := ["internal/bytealg.MakeNoZero"], unfollowed := true, recurses := true, apart := false }
def ShardOtherSaid : Prop := shardOtherRow.holds Try.pinned (OpenSpec.ofChange shardOtherSpec)

/-- ITS FALSE NEIGHBOUR: 'it returns false'. Refute it at one input. -/
def shardOtherWrong : ChangeSpec := { name := "shardOther", fn := fun _ => fun
  | [d1, d2] => { results := [.lit (.bool false)], args := [d1, d2] }
  | _ => none }
def ShardOtherWrongFalsely : Prop := shardOtherRow.holds Try.pinned (OpenSpec.ofChange shardOtherWrong)

/-- 'flittinglaw15.ShardWhole': WHATEVER THE INPUT: true; the input reads as it did. -/
def shardWholeSpec : ChangeSpec := { name := "shardWhole", fn := fun _ => fun
  | [d1, d2] => { results := [.lit (.bool true)], args := [d1, d2] }
  | _ => none }
def shardWholeRow : OpenClaim := { program := "ytficmalfoeaibaa", sum := "73372523d94b62fba18d3a9b9e69aa970b5234f504fce2bebe8804b035d666f9", func := "flitting/flittinglaw15.ShardWhole", spec := "shardWhole", inPlace := ["internal/bytealg.MakeNoZero"], unfollowed := true, recurses := true, apart := false }
def ShardWholeSaid : Prop := shardWholeRow.holds Try.pinned (OpenSpec.ofChange shardWholeSpec)

/-- ITS FALSE NEIGHBOUR: 'it returns false'. Refute it at one input. -/
def shardWholeWrong : ChangeSpec := { name := "shardWhole", fn := fun _ => fun
  | [d1, d2] => { results := [.lit (.bool false)], args := [d1, d2] }
  | _ => none }
def ShardWholeWrongFalsely : Prop := shardWholeRow.holds Try.pinned (OpenSpec.ofChange shardWholeWrong)

/-- 'flittinglaw15.ShardRead': WHATEVER THE INPUT: true; the input reads as it did. -/
def shardReadSpec : ChangeSpec := { name := "shardRead", fn := fun _ => fun
  | [d1, d2, d3, d4, d5, d6] => { results := [.lit (.bool true)], args := [d1, d2, d3, d4, d5, d6] }
  | _ => none }
def shardReadRow : OpenClaim := { program := "ytficmalfoeaibaa", sum := "73372523d94b62fba18d3a9b9e69aa970b5234f504fce2bebe8804b035d666f9", func := "flitting/flittinglaw15.ShardRead", spec := "shardRead", inPlace := ["internal/bytealg.MakeNoZero"], unfollowed := true, recurses := true, apart := false }
def ShardReadSaid : Prop := shardReadRow.holds Try.pinned (OpenSpec.ofChange shardReadSpec)

/-- ITS FALSE NEIGHBOUR: 'it returns false'. Refute it at one input. -/
def shardReadWrong : ChangeSpec := { name := "shardRead", fn := fun _ => fun
  | [d1, d2, d3, d4, d5, d6] => { results := [.lit (.bool false)], args := [d1, d2, d3, d4, d5, d6] }
  | _ => none }
def ShardReadWrongFalsely : Prop := shardReadRow.holds Try.pinned (OpenSpec.ofChange shardReadWrong)

/-- 'flittinglaw15.ShardArgs': WHATEVER THE INPUT: true; the input reads as it did. -/
def shardArgsSpec : ChangeSpec := { name := "shardArgs", fn := fun _ => fun
  | [d1, d2, d3, d4] => { results := [.lit (.bool true)], args := [d1, d2, d3, d4] }
  | _ => none }
def shardArgsRow : OpenClaim := { program := "ytficmalfoeaibaa", sum := "73372523d94b62fba18d3a9b9e69aa970b5234f504fce2bebe8804b035d666f9", func := "flitting/flittinglaw15.ShardArgs", spec := "shardArgs", inPlace := ["internal/bytealg.MakeNoZero"], unfollowed := true, recurses := true, apart := false }
def ShardArgsSaid : Prop := shardArgsRow.holds Try.pinned (OpenSpec.ofChange shardArgsSpec)

/-- ITS FALSE NEIGHBOUR: 'it returns false'. Refute it at one input. -/
def shardArgsWrong : ChangeSpec := { name := "shardArgs", fn := fun _ => fun
  | [d1, d2, d3, d4] => { results := [.lit (.bool false)], args := [d1, d2, d3, d4] }
  | _ => none }
def ShardArgsWrongFalsely : Prop := shardArgsRow.holds Try.pinned (OpenSpec.ofChange shardArgsWrong)

/-- 'flittinglaw15.ShardChanged': WHATEVER THE INPUT: true; the input reads as it did. -/
def shardChangedSpec : ChangeSpec := { name := "shardChanged", fn := fun _ => fun
  | [d1, d2] => { results := [.lit (.bool true)], args := [d1, d2] }
  | _ => none }
def shardChangedRow : OpenClaim := { program := "ytficmalfoeaibaa", sum := "73372523d94b62fba18d3a9b9e69aa970b5234f504fce2bebe8804b035d666f9", func := "flitting/flittinglaw15.ShardChanged", spec := "shardChanged", inPlace := ["internal/bytealg.MakeNoZero"], unfollowed := true, recurses := true, apart := false }
def ShardChangedSaid : Prop := shardChangedRow.holds Try.pinned (OpenSpec.ofChange shardChangedSpec)

/-- ITS FALSE NEIGHBOUR: 'it returns false'. Refute it at one input. -/
def shardChangedWrong : ChangeSpec := { name := "shardChanged", fn := fun _ => fun
  | [d1, d2] => { results := [.lit (.bool false)], args := [d1, d2] }
  | _ => none }
def ShardChangedWrongFalsely : Prop := shardChangedRow.holds Try.pinned (OpenSpec.ofChange shardChangedWrong)

/-- 'flittinglaw18.MoveLost': WHATEVER THE INPUT: true; the input reads as it did. -/
def moveLostSpec : ChangeSpec := { name := "moveLost", fn := fun _ => fun
  | [d1, d2] => { results := [.lit (.bool true)], args := [d1, d2] }
  | _ => none }
def moveLostRow : OpenClaim := { program := "ytficmalfoeaibaa", sum := "73372523d94b62fba18d3a9b9e69aa970b5234f504fce2bebe8804b035d666f9", func := "flitting/flittinglaw18.MoveLost", spec := "moveLost", inPlace := ["internal/bytealg.MakeNoZero"], unfollowed := true, recurses := true, apart := false }
def MoveLostSaid : Prop := moveLostRow.holds Try.pinned (OpenSpec.ofChange moveLostSpec)

/-- ITS FALSE NEIGHBOUR: 'it returns false'. Refute it at one input. -/
def moveLostWrong : ChangeSpec := { name := "moveLost", fn := fun _ => fun
  | [d1, d2] => { results := [.lit (.bool false)], args := [d1, d2] }
  | _ => none }
def MoveLostWrongFalsely : Prop := moveLostRow.holds Try.pinned (OpenSpec.ofChange moveLostWrong)

/-- 'flittinglaw18.MoveWaits': WHATEVER THE INPUT: true; the input reads as it did. -/
def moveWaitsSpec : ChangeSpec := { name := "moveWaits", fn := fun _ => fun
  | [d1, d2, d3] => { results := [.lit (.bool true)], args := [d1, d2, d3] }
  | _ => none }
def moveWaitsRow : OpenClaim := { program := "ytficmalfoeaibaa", sum := "73372523d94b62fba18d3a9b9e69aa970b5234f504fce2bebe8804b035d666f9", func := "flitting/flittinglaw18.MoveWaits", spec := "moveWaits", inPlace := ["internal/bytealg.MakeNoZero"], unfollowed := true, recurses := true, apart := false }
def MoveWaitsSaid : Prop := moveWaitsRow.holds Try.pinned (OpenSpec.ofChange moveWaitsSpec)

/-- ITS FALSE NEIGHBOUR: 'it returns false'. Refute it at one input. -/
def moveWaitsWrong : ChangeSpec := { name := "moveWaits", fn := fun _ => fun
  | [d1, d2, d3] => { results := [.lit (.bool false)], args := [d1, d2, d3] }
  | _ => none }
def MoveWaitsWrongFalsely : Prop := moveWaitsRow.holds Try.pinned (OpenSpec.ofChange moveWaitsWrong)

/-- 'flittinglaw18.MoveLooks': WHATEVER THE INPUT: true; the input reads as it did. -/
def moveLooksSpec : ChangeSpec := { name := "moveLooks", fn := fun _ => fun
  | [d1, d2] => { results := [.lit (.bool true)], args := [d1, d2] }
  | _ => none }
def moveLooksRow : OpenClaim := { program := "ytficmalfoeaibaa", sum := "73372523d94b62fba18d3a9b9e69aa970b5234f504fce2bebe8804b035d666f9", func := "flitting/flittinglaw18.MoveLooks", spec := "moveLooks", inPlace := ["internal/bytealg.MakeNoZero"], unfollowed := true, recurses := true, apart := false }
def MoveLooksSaid : Prop := moveLooksRow.holds Try.pinned (OpenSpec.ofChange moveLooksSpec)

/-- ITS FALSE NEIGHBOUR: 'it returns false'. Refute it at one input. -/
def moveLooksWrong : ChangeSpec := { name := "moveLooks", fn := fun _ => fun
  | [d1, d2] => { results := [.lit (.bool false)], args := [d1, d2] }
  | _ => none }
def MoveLooksWrongFalsely : Prop := moveLooksRow.holds Try.pinned (OpenSpec.ofChange moveLooksWrong)

/-- 'flittinglaw18.MoveGoes': WHATEVER THE INPUT: true; the input reads as it did. -/
def moveGoesSpec : ChangeSpec := { name := "moveGoes", fn := fun _ => fun
  | [d1, d2, d3, d4] => { results := [.lit (.bool true)], args := [d1, d2, d3, d4] }
  | _ => none }
def moveGoesRow : OpenClaim := { program := "ytficmalfoeaibaa", sum := "73372523d94b62fba18d3a9b9e69aa970b5234f504fce2bebe8804b035d666f9", func := "flitting/flittinglaw18.MoveGoes", spec := "moveGoes", inPlace := ["internal/bytealg.MakeNoZero"], unfollowed := true, recurses := true, apart := false }
def MoveGoesSaid : Prop := moveGoesRow.holds Try.pinned (OpenSpec.ofChange moveGoesSpec)

/-- ITS FALSE NEIGHBOUR: 'it returns false'. Refute it at one input. -/
def moveGoesWrong : ChangeSpec := { name := "moveGoes", fn := fun _ => fun
  | [d1, d2, d3, d4] => { results := [.lit (.bool false)], args := [d1, d2, d3, d4] }
  | _ => none }
def MoveGoesWrongFalsely : Prop := moveGoesRow.holds Try.pinned (OpenSpec.ofChange moveGoesWrong)

/-- 'flittinglaw18.MoveDown': WHATEVER THE INPUT: true; the input reads as it did. -/
def moveDownSpec : ChangeSpec := { name := "moveDown", fn := fun _ => fun
  | [d1, d2, d3] => { results := [.lit (.bool true)], args := [d1, d2, d3] }
  | _ => none }
def moveDownRow : OpenClaim := { program := "ytficmalfoeaibaa", sum := "73372523d94b62fba18d3a9b9e69aa970b5234f504fce2bebe8804b035d666f9", func := "flitting/flittinglaw18.MoveDown", spec := "moveDown", inPlace := ["internal/bytealg.MakeNoZero"], unfollowed := true, recurses := true, apart := false }
def MoveDownSaid : Prop := moveDownRow.holds Try.pinned (OpenSpec.ofChange moveDownSpec)

/-- ITS FALSE NEIGHBOUR: 'it returns false'. Refute it at one input. -/
def moveDownWrong : ChangeSpec := { name := "moveDown", fn := fun _ => fun
  | [d1, d2, d3] => { results := [.lit (.bool false)], args := [d1, d2, d3] }
  | _ => none }
def MoveDownWrongFalsely : Prop := moveDownRow.holds Try.pinned (OpenSpec.ofChange moveDownWrong)

/- THE SECOND FORM. 'bulk': how many values and letters a reading holds, each counted each time it is reached (what is shared counts as often as it is met; a slice's spare places count too). A statement '..UptoSaid' is the law's where the arguments, and the package variables that the reading takes, are together of bulk at most 1048576: NARROWER than '..Said'. Prove '..Said' where nothing that the law and all that it calls make is longer than what came in: it says more and counts as full. Else prove '..UptoSaid'. A law counts once. -/
mutual
def uptoBulk {H : Type} : DataW H → Nat
  | .lit (.string bytes) => bytes.length + 1
  | .lit _ => 1
  | .nil => 1
  | .ptr d => uptoBulk d + 1
  | .slice elems spare => uptoBulkAll elems + uptoBulkAll spare + 1
  | .agg parts => uptoBulkAll parts + 1
  | .iface _ d => uptoBulk d + 1
  | .map entries => uptoBulkEntries entries + 1
  | .held _ => 1
def uptoBulkAll {H : Type} : List (DataW H) → Nat
  | [] => 0
  | d :: r => uptoBulk d + uptoBulkAll r
def uptoBulkEntries {H : Type} : List (Lit × DataW H) → Nat
  | [] => 0
  | x :: r => uptoBulkEntry x + uptoBulkEntries r
def uptoBulkEntry {H : Type} : Lit × DataW H → Nat
  | (.string bytes, d) => bytes.length + uptoBulk d + 1
  | (_, d) => uptoBulk d + 1
 end
def uptoSmall : (H : Type) → List (DataW H) → Bool := fun _ ds => decide (uptoBulkAll ds ≤ 1048576)
def OpenSpec.upto (s : _root_.Go.ChangeSpec) : _root_.Go.OpenSpec := { _root_.Go.OpenSpec.ofChange s with cond := some uptoSmall }

/-- 'flittinglaw08.PoolRoom', WHERE WHAT IT READS IS OF BULK AT MOST 1048576: true; the input reads as it did. -/
def poolRoomUptoRow : OpenClaim := { program := "ytficmalfoeaibaa", sum := "73372523d94b62fba18d3a9b9e69aa970b5234f504fce2bebe8804b035d666f9", func := "flitting/flittinglaw08.PoolRoom", spec := "poolRoom", unfollowed := true, recurses := true, apart := false, narrowed := true }
def PoolRoomUptoSaid : Prop := poolRoomUptoRow.holds Try.pinned (OpenSpec.upto poolRoomSpec)

/-- 'flittinglaw08.PoolFuse', WHERE WHAT IT READS IS OF BULK AT MOST 1048576: true; the input reads as it did. -/
def poolFuseUptoRow : OpenClaim := { program := "ytficmalfoeaibaa", sum := "73372523d94b62fba18d3a9b9e69aa970b5234f504fce2bebe8804b035d666f9", func := "flitting/flittinglaw08.PoolFuse", spec := "poolFuse", unfollowed := true, recurses := true, apart := false, narrowed := true }
def PoolFuseUptoSaid : Prop := poolFuseUptoRow.holds Try.pinned (OpenSpec.upto poolFuseSpec)

/-- 'flittinglaw08.PoolLasts', WHERE WHAT IT READS IS OF BULK AT MOST 1048576: true; the input reads as it did. -/
def poolLastsUptoRow : OpenClaim := { program := "ytficmalfoeaibaa", sum := "73372523d94b62fba18d3a9b9e69aa970b5234f504fce2bebe8804b035d666f9", func := "flitting/flittinglaw08.PoolLasts", spec := "poolLasts", unfollowed := true, recurses := true, apart := false, narrowed := true }
def PoolLastsUptoSaid : Prop := poolLastsUptoRow.holds Try.pinned (OpenSpec.upto poolLastsSpec)

/-- 'flittinglaw08.PoolNone', WHERE WHAT IT READS IS OF BULK AT MOST 1048576: true; the input reads as it did. -/
def poolNoneUptoRow : OpenClaim := { program := "ytficmalfoeaibaa", sum := "73372523d94b62fba18d3a9b9e69aa970b5234f504fce2bebe8804b035d666f9", func := "flitting/flittinglaw08.PoolNone", spec := "poolNone", unfollowed := true, recurses := true, apart := false, narrowed := true }
def PoolNoneUptoSaid : Prop := poolNoneUptoRow.holds Try.pinned (OpenSpec.upto poolNoneSpec)

/-- 'flittinglaw08.PoolPlays', WHERE WHAT IT READS IS OF BULK AT MOST 1048576: true; the input reads as it did. -/
def poolPlaysUptoRow : OpenClaim := { program := "ytficmalfoeaibaa", sum := "73372523d94b62fba18d3a9b9e69aa970b5234f504fce2bebe8804b035d666f9", func := "flitting/flittinglaw08.PoolPlays", spec := "poolPlays", unfollowed := true, recurses := true, apart := false, narrowed := true }
def PoolPlaysUptoSaid : Prop := poolPlaysUptoRow.holds Try.pinned (OpenSpec.upto poolPlaysSpec)

/-- 'flittinglaw15.ShardOther', WHERE WHAT IT READS IS OF BULK AT MOST 1048576: true; the input reads as it did. -/
def shardOtherUptoRow : OpenClaim := { program := "ytficmalfoeaibaa", sum := "73372523d94b62fba18d3a9b9e69aa970b5234f504fce2bebe8804b035d666f9", func := "flitting/flittinglaw15.ShardOther", spec := "shardOther", inPlace := ["internal/bytealg.MakeNoZero"], unfollowed := true, recurses := true, apart := false, narrowed := true }
def ShardOtherUptoSaid : Prop := shardOtherUptoRow.holds Try.pinned (OpenSpec.upto shardOtherSpec)

/-- 'flittinglaw15.ShardWhole', WHERE WHAT IT READS IS OF BULK AT MOST 1048576: true; the input reads as it did. -/
def shardWholeUptoRow : OpenClaim := { program := "ytficmalfoeaibaa", sum := "73372523d94b62fba18d3a9b9e69aa970b5234f504fce2bebe8804b035d666f9", func := "flitting/flittinglaw15.ShardWhole", spec := "shardWhole", inPlace := ["internal/bytealg.MakeNoZero"], unfollowed := true, recurses := true, apart := false, narrowed := true }
def ShardWholeUptoSaid : Prop := shardWholeUptoRow.holds Try.pinned (OpenSpec.upto shardWholeSpec)

/-- 'flittinglaw15.ShardRead', WHERE WHAT IT READS IS OF BULK AT MOST 1048576: true; the input reads as it did. -/
def shardReadUptoRow : OpenClaim := { program := "ytficmalfoeaibaa", sum := "73372523d94b62fba18d3a9b9e69aa970b5234f504fce2bebe8804b035d666f9", func := "flitting/flittinglaw15.ShardRead", spec := "shardRead", inPlace := ["internal/bytealg.MakeNoZero"], unfollowed := true, recurses := true, apart := false, narrowed := true }
def ShardReadUptoSaid : Prop := shardReadUptoRow.holds Try.pinned (OpenSpec.upto shardReadSpec)

/-- 'flittinglaw15.ShardArgs', WHERE WHAT IT READS IS OF BULK AT MOST 1048576: true; the input reads as it did. -/
def shardArgsUptoRow : OpenClaim := { program := "ytficmalfoeaibaa", sum := "73372523d94b62fba18d3a9b9e69aa970b5234f504fce2bebe8804b035d666f9", func := "flitting/flittinglaw15.ShardArgs", spec := "shardArgs", inPlace := ["internal/bytealg.MakeNoZero"], unfollowed := true, recurses := true, apart := false, narrowed := true }
def ShardArgsUptoSaid : Prop := shardArgsUptoRow.holds Try.pinned (OpenSpec.upto shardArgsSpec)

/-- 'flittinglaw15.ShardChanged', WHERE WHAT IT READS IS OF BULK AT MOST 1048576: true; the input reads as it did. -/
def shardChangedUptoRow : OpenClaim := { program := "ytficmalfoeaibaa", sum := "73372523d94b62fba18d3a9b9e69aa970b5234f504fce2bebe8804b035d666f9", func := "flitting/flittinglaw15.ShardChanged", spec := "shardChanged", inPlace := ["internal/bytealg.MakeNoZero"], unfollowed := true, recurses := true, apart := false, narrowed := true }
def ShardChangedUptoSaid : Prop := shardChangedUptoRow.holds Try.pinned (OpenSpec.upto shardChangedSpec)

/-- 'flittinglaw18.MoveLost', WHERE WHAT IT READS IS OF BULK AT MOST 1048576: true; the input reads as it did. -/
def moveLostUptoRow : OpenClaim := { program := "ytficmalfoeaibaa", sum := "73372523d94b62fba18d3a9b9e69aa970b5234f504fce2bebe8804b035d666f9", func := "flitting/flittinglaw18.MoveLost", spec := "moveLost", inPlace := ["internal/bytealg.MakeNoZero"], unfollowed := true, recurses := true, apart := false, narrowed := true }
def MoveLostUptoSaid : Prop := moveLostUptoRow.holds Try.pinned (OpenSpec.upto moveLostSpec)

/-- 'flittinglaw18.MoveWaits', WHERE WHAT IT READS IS OF BULK AT MOST 1048576: true; the input reads as it did. -/
def moveWaitsUptoRow : OpenClaim := { program := "ytficmalfoeaibaa", sum := "73372523d94b62fba18d3a9b9e69aa970b5234f504fce2bebe8804b035d666f9", func := "flitting/flittinglaw18.MoveWaits", spec := "moveWaits", inPlace := ["internal/bytealg.MakeNoZero"], unfollowed := true, recurses := true, apart := false, narrowed := true }
def MoveWaitsUptoSaid : Prop := moveWaitsUptoRow.holds Try.pinned (OpenSpec.upto moveWaitsSpec)

/-- 'flittinglaw18.MoveLooks', WHERE WHAT IT READS IS OF BULK AT MOST 1048576: true; the input reads as it did. -/
def moveLooksUptoRow : OpenClaim := { program := "ytficmalfoeaibaa", sum := "73372523d94b62fba18d3a9b9e69aa970b5234f504fce2bebe8804b035d666f9", func := "flitting/flittinglaw18.MoveLooks", spec := "moveLooks", inPlace := ["internal/bytealg.MakeNoZero"], unfollowed := true, recurses := true, apart := false, narrowed := true }
def MoveLooksUptoSaid : Prop := moveLooksUptoRow.holds Try.pinned (OpenSpec.upto moveLooksSpec)

/-- 'flittinglaw18.MoveGoes', WHERE WHAT IT READS IS OF BULK AT MOST 1048576: true; the input reads as it did. -/
def moveGoesUptoRow : OpenClaim := { program := "ytficmalfoeaibaa", sum := "73372523d94b62fba18d3a9b9e69aa970b5234f504fce2bebe8804b035d666f9", func := "flitting/flittinglaw18.MoveGoes", spec := "moveGoes", inPlace := ["internal/bytealg.MakeNoZero"], unfollowed := true, recurses := true, apart := false, narrowed := true }
def MoveGoesUptoSaid : Prop := moveGoesUptoRow.holds Try.pinned (OpenSpec.upto moveGoesSpec)

/-- 'flittinglaw18.MoveDown', WHERE WHAT IT READS IS OF BULK AT MOST 1048576: true; the input reads as it did. -/
def moveDownUptoRow : OpenClaim := { program := "ytficmalfoeaibaa", sum := "73372523d94b62fba18d3a9b9e69aa970b5234f504fce2bebe8804b035d666f9", func := "flitting/flittinglaw18.MoveDown", spec := "moveDown", inPlace := ["internal/bytealg.MakeNoZero"], unfollowed := true, recurses := true, apart := false, narrowed := true }
def MoveDownUptoSaid : Prop := moveDownUptoRow.holds Try.pinned (OpenSpec.upto moveDownSpec)

end Rows
end Go.Proofs.Ytficmalfoeaibaa

/-
  No cell of these rows narrows 'for every input' (looked for: loops, veiled, ifaces, maps, wideKeys, modest, calm, conditions, laid).
  DERIVED. THE GIVEN ROWS OF THIS SEAT. 16 by the template 'for every input the law returns true; each argument reads behind the call as it read before'; 0 by the template 'total and deterministic' (their statements: YtfpocddpnoighaaTotals.lean).
  GIVEN WITH THE SEED: the statements are not yours to turn. If you find one false, say at which input.
  Laid BY PROGRAM, IN A SANDBOX (cutbox-rows.mjs): the forced cells as the released guide's own fill.sh prints them over the translation 15f3dcc25318d858… (all of the seat's roots in one cut). By AI agents, Wed Nov 11 2026. No macro, syntax, notation, axiom, sorry.
-/
import Derived.Test.YtfpocddpnoighaaChecked
import GoSem.Claim
import GoSem.ClaimJoined
import GoSem.ClaimMapViews
import Derived.JoinedTies
import Derived.KernelRfl
namespace Go.Proofs.Ytfpocddpnoighaa
/- THE CELL 'sum', in the pinned program and in every row, IS THE sha256 OF THE DUMP (.gsa) THAT YtfpocddpnoighaaProg.lean LOADS. Nothing in Lean hashes anything: it is a label: what it is worth is what the hold of that sum in a sandbox is worth. -/
noncomputable def Try.pinned : Pinned := { name := "ytfpocddpnoighaa", sum := "15f3dcc25318d85896927b2788bc9c8c17258f762815d57179a909cb03057289", checked := Try.checked }
namespace Rows
def none {H : Type} : Left H := { results := [], args := [] }

/-- 'remudalaw02.WireJoins': WHATEVER THE INPUT: true; the input reads as it did. -/
def wireJoinsSpec : ChangeSpec := { name := "wireJoins", fn := fun _ => fun
  | [d1, d2] => { results := [.lit (.bool true)], args := [d1, d2] }
  | _ => none }
def wireJoinsRow : OpenClaim := { program := "ytfpocddpnoighaa", sum := "15f3dcc25318d85896927b2788bc9c8c17258f762815d57179a909cb03057289", func := "remuda/remudalaw02.WireJoins", spec := "wireJoins", inPlace := ["internal/abi.NoEscape"], apart := false }
def WireJoinsSaid : Prop := wireJoinsRow.holds Try.pinned (OpenSpec.ofChange wireJoinsSpec)

/-- ITS FALSE NEIGHBOUR: 'it returns false'. Refute it at one input. -/
def wireJoinsWrong : ChangeSpec := { name := "wireJoins", fn := fun _ => fun
  | [d1, d2] => { results := [.lit (.bool false)], args := [d1, d2] }
  | _ => none }
def WireJoinsWrongFalsely : Prop := wireJoinsRow.holds Try.pinned (OpenSpec.ofChange wireJoinsWrong)

/-- 'remudalaw02.WireNone': WHATEVER THE INPUT: true; the input reads as it did. -/
def wireNoneSpec : ChangeSpec := { name := "wireNone", fn := fun _ => fun
  | [d] => { results := [.lit (.bool true)], args := [d] }
  | _ => none }
def wireNoneRow : OpenClaim := { program := "ytfpocddpnoighaa", sum := "15f3dcc25318d85896927b2788bc9c8c17258f762815d57179a909cb03057289", func := "remuda/remudalaw02.WireNone", spec := "wireNone", inPlace := ["internal/abi.NoEscape"], apart := false }
def WireNoneSaid : Prop := wireNoneRow.holds Try.pinned (OpenSpec.ofChange wireNoneSpec)

/-- ITS FALSE NEIGHBOUR: 'it returns false'. Refute it at one input. -/
def wireNoneWrong : ChangeSpec := { name := "wireNone", fn := fun _ => fun
  | [d] => { results := [.lit (.bool false)], args := [d] }
  | _ => none }
def WireNoneWrongFalsely : Prop := wireNoneRow.holds Try.pinned (OpenSpec.ofChange wireNoneWrong)

/-- 'remudalaw02.WireBreaks': WHATEVER THE INPUT: true; the input reads as it did. -/
def wireBreaksSpec : ChangeSpec := { name := "wireBreaks", fn := fun _ => fun
  | [d1, d2] => { results := [.lit (.bool true)], args := [d1, d2] }
  | _ => none }
def wireBreaksRow : OpenClaim := { program := "ytfpocddpnoighaa", sum := "15f3dcc25318d85896927b2788bc9c8c17258f762815d57179a909cb03057289", func := "remuda/remudalaw02.WireBreaks", spec := "wireBreaks", inPlace := ["internal/abi.NoEscape"], apart := false }
def WireBreaksSaid : Prop := wireBreaksRow.holds Try.pinned (OpenSpec.ofChange wireBreaksSpec)

/-- ITS FALSE NEIGHBOUR: 'it returns false'. Refute it at one input. -/
def wireBreaksWrong : ChangeSpec := { name := "wireBreaks", fn := fun _ => fun
  | [d1, d2] => { results := [.lit (.bool false)], args := [d1, d2] }
  | _ => none }
def WireBreaksWrongFalsely : Prop := wireBreaksRow.holds Try.pinned (OpenSpec.ofChange wireBreaksWrong)

/-- 'remudalaw02.WirePuts': WHATEVER THE INPUT: true; the input reads as it did. -/
def wirePutsSpec : ChangeSpec := { name := "wirePuts", fn := fun _ => fun
  | [d] => { results := [.lit (.bool true)], args := [d] }
  | _ => none }
def wirePutsRow : OpenClaim := { program := "ytfpocddpnoighaa", sum := "15f3dcc25318d85896927b2788bc9c8c17258f762815d57179a909cb03057289", func := "remuda/remudalaw02.WirePuts", spec := "wirePuts", inPlace := ["internal/abi.NoEscape"], apart := false }
def WirePutsSaid : Prop := wirePutsRow.holds Try.pinned (OpenSpec.ofChange wirePutsSpec)

/-- ITS FALSE NEIGHBOUR: 'it returns false'. Refute it at one input. -/
def wirePutsWrong : ChangeSpec := { name := "wirePuts", fn := fun _ => fun
  | [d] => { results := [.lit (.bool false)], args := [d] }
  | _ => none }
def WirePutsWrongFalsely : Prop := wirePutsRow.holds Try.pinned (OpenSpec.ofChange wirePutsWrong)

/-- 'remudalaw02.WireReads': WHATEVER THE INPUT: true; the input reads as it did. -/
def wireReadsSpec : ChangeSpec := { name := "wireReads", fn := fun _ => fun
  | [d1, d2] => { results := [.lit (.bool true)], args := [d1, d2] }
  | _ => none }
def wireReadsRow : OpenClaim := { program := "ytfpocddpnoighaa", sum := "15f3dcc25318d85896927b2788bc9c8c17258f762815d57179a909cb03057289", func := "remuda/remudalaw02.WireReads", spec := "wireReads", inPlace := ["internal/abi.NoEscape"], apart := false }
def WireReadsSaid : Prop := wireReadsRow.holds Try.pinned (OpenSpec.ofChange wireReadsSpec)

/-- ITS FALSE NEIGHBOUR: 'it returns false'. Refute it at one input. -/
def wireReadsWrong : ChangeSpec := { name := "wireReads", fn := fun _ => fun
  | [d1, d2] => { results := [.lit (.bool false)], args := [d1, d2] }
  | _ => none }
def WireReadsWrongFalsely : Prop := wireReadsRow.holds Try.pinned (OpenSpec.ofChange wireReadsWrong)

/-- 'remudalaw06.ItemOrders': WHATEVER THE INPUT: true; the input reads as it did. -/
def itemOrdersSpec : ChangeSpec := { name := "itemOrders", fn := fun _ => fun
  | [d1, d2, d3] => { results := [.lit (.bool true)], args := [d1, d2, d3] }
  | _ => none }
def itemOrdersRow : OpenClaim := { program := "ytfpocddpnoighaa", sum := "15f3dcc25318d85896927b2788bc9c8c17258f762815d57179a909cb03057289", func := "remuda/remudalaw06.ItemOrders", spec := "itemOrders", inPlace := ["internal/abi.NoEscape"], apart := false }
def ItemOrdersSaid : Prop := itemOrdersRow.holds Try.pinned (OpenSpec.ofChange itemOrdersSpec)

/-- ITS FALSE NEIGHBOUR: 'it returns false'. Refute it at one input. -/
def itemOrdersWrong : ChangeSpec := { name := "itemOrders", fn := fun _ => fun
  | [d1, d2, d3] => { results := [.lit (.bool false)], args := [d1, d2, d3] }
  | _ => none }
def ItemOrdersWrongFalsely : Prop := itemOrdersRow.holds Try.pinned (OpenSpec.ofChange itemOrdersWrong)

/-- 'remudalaw06.ItemRights': WHATEVER THE INPUT: true; the input reads as it did. -/
def itemRightsSpec : ChangeSpec := { name := "itemRights", fn := fun _ => fun
  | [d1, d2, d3] => { results := [.lit (.bool true)], args := [d1, d2, d3] }
  | _ => none }
def itemRightsRow : OpenClaim := { program := "ytfpocddpnoighaa", sum := "15f3dcc25318d85896927b2788bc9c8c17258f762815d57179a909cb03057289", func := "remuda/remudalaw06.ItemRights", spec := "itemRights", inPlace := ["internal/abi.NoEscape"], unfollowed := true, recurses := true, apart := false }
def ItemRightsSaid : Prop := itemRightsRow.holds Try.pinned (OpenSpec.ofChange itemRightsSpec)

/-- ITS FALSE NEIGHBOUR: 'it returns false'. Refute it at one input. -/
def itemRightsWrong : ChangeSpec := { name := "itemRights", fn := fun _ => fun
  | [d1, d2, d3] => { results := [.lit (.bool false)], args := [d1, d2, d3] }
  | _ => none }
def ItemRightsWrongFalsely : Prop := itemRightsRow.holds Try.pinned (OpenSpec.ofChange itemRightsWrong)

/-- 'remudalaw06.ItemBytes': WHATEVER THE INPUT: true; the input reads as it did. -/
def itemBytesSpec : ChangeSpec := { name := "itemBytes", fn := fun _ => fun
  | [d1, d2, d3] => { results := [.lit (.bool true)], args := [d1, d2, d3] }
  | _ => none }
def itemBytesRow : OpenClaim := { program := "ytfpocddpnoighaa", sum := "15f3dcc25318d85896927b2788bc9c8c17258f762815d57179a909cb03057289", func := "remuda/remudalaw06.ItemBytes", spec := "itemBytes", inPlace := ["internal/abi.NoEscape"], apart := false }
def ItemBytesSaid : Prop := itemBytesRow.holds Try.pinned (OpenSpec.ofChange itemBytesSpec)

/-- ITS FALSE NEIGHBOUR: 'it returns false'. Refute it at one input. -/
def itemBytesWrong : ChangeSpec := { name := "itemBytes", fn := fun _ => fun
  | [d1, d2, d3] => { results := [.lit (.bool false)], args := [d1, d2, d3] }
  | _ => none }
def ItemBytesWrongFalsely : Prop := itemBytesRow.holds Try.pinned (OpenSpec.ofChange itemBytesWrong)

/-- 'remudalaw06.ItemJoins': WHATEVER THE INPUT: true; the input reads as it did. -/
def itemJoinsSpec : ChangeSpec := { name := "itemJoins", fn := fun _ => fun
  | [d1, d2, d3] => { results := [.lit (.bool true)], args := [d1, d2, d3] }
  | _ => none }
def itemJoinsRow : OpenClaim := { program := "ytfpocddpnoighaa", sum := "15f3dcc25318d85896927b2788bc9c8c17258f762815d57179a909cb03057289", func := "remuda/remudalaw06.ItemJoins", spec := "itemJoins", inPlace := ["internal/abi.NoEscape"], unfollowed := true, recurses := true, apart := false }
def ItemJoinsSaid : Prop := itemJoinsRow.holds Try.pinned (OpenSpec.ofChange itemJoinsSpec)

/-- ITS FALSE NEIGHBOUR: 'it returns false'. Refute it at one input. -/
def itemJoinsWrong : ChangeSpec := { name := "itemJoins", fn := fun _ => fun
  | [d1, d2, d3] => { results := [.lit (.bool false)], args := [d1, d2, d3] }
  | _ => none }
def ItemJoinsWrongFalsely : Prop := itemJoinsRow.holds Try.pinned (OpenSpec.ofChange itemJoinsWrong)

/-- 'remudalaw07.RecordUnlike': WHATEVER THE INPUT: true; the input reads as it did. -/
def recordUnlikeSpec : ChangeSpec := { name := "recordUnlike", fn := fun _ => fun
  | [d1, d2] => { results := [.lit (.bool true)], args := [d1, d2] }
  | _ => none }
def recordUnlikeRow : OpenClaim := { program := "ytfpocddpnoighaa", sum := "15f3dcc25318d85896927b2788bc9c8c17258f762815d57179a909cb03057289", func := "remuda/remudalaw07.RecordUnlike", spec := "recordUnlike", inPlace := ["internal/abi.NoEscape"], unfollowed := true, recurses := true, apart := false }
def RecordUnlikeSaid : Prop := recordUnlikeRow.holds Try.pinned (OpenSpec.ofChange recordUnlikeSpec)

/-- ITS FALSE NEIGHBOUR: 'it returns false'. Refute it at one input. -/
def recordUnlikeWrong : ChangeSpec := { name := "recordUnlike", fn := fun _ => fun
  | [d1, d2] => { results := [.lit (.bool false)], args := [d1, d2] }
  | _ => none }
def RecordUnlikeWrongFalsely : Prop := recordUnlikeRow.holds Try.pinned (OpenSpec.ofChange recordUnlikeWrong)

/-- 'remudalaw07.RecordBytes': WHATEVER THE INPUT: true; the input reads as it did. -/
def recordBytesSpec : ChangeSpec := { name := "recordBytes", fn := fun _ => fun
  | [d] => { results := [.lit (.bool true)], args := [d] }
  | _ => none }
def recordBytesRow : OpenClaim := { program := "ytfpocddpnoighaa", sum := "15f3dcc25318d85896927b2788bc9c8c17258f762815d57179a909cb03057289", func := "remuda/remudalaw07.RecordBytes", spec := "recordBytes", inPlace := ["internal/abi.NoEscape"], unfollowed := true, recurses := true, apart := false }
def RecordBytesSaid : Prop := recordBytesRow.holds Try.pinned (OpenSpec.ofChange recordBytesSpec)

/-- ITS FALSE NEIGHBOUR: 'it returns false'. Refute it at one input. -/
def recordBytesWrong : ChangeSpec := { name := "recordBytes", fn := fun _ => fun
  | [d] => { results := [.lit (.bool false)], args := [d] }
  | _ => none }
def RecordBytesWrongFalsely : Prop := recordBytesRow.holds Try.pinned (OpenSpec.ofChange recordBytesWrong)

/-- 'remudalaw07.RecordReads': WHATEVER THE INPUT: true; the input reads as it did. -/
def recordReadsSpec : ChangeSpec := { name := "recordReads", fn := fun _ => fun
  | [d] => { results := [.lit (.bool true)], args := [d] }
  | _ => none }
def recordReadsRow : OpenClaim := { program := "ytfpocddpnoighaa", sum := "15f3dcc25318d85896927b2788bc9c8c17258f762815d57179a909cb03057289", func := "remuda/remudalaw07.RecordReads", spec := "recordReads", inPlace := ["internal/abi.NoEscape"], unfollowed := true, recurses := true, apart := false }
def RecordReadsSaid : Prop := recordReadsRow.holds Try.pinned (OpenSpec.ofChange recordReadsSpec)

/-- ITS FALSE NEIGHBOUR: 'it returns false'. Refute it at one input. -/
def recordReadsWrong : ChangeSpec := { name := "recordReads", fn := fun _ => fun
  | [d] => { results := [.lit (.bool false)], args := [d] }
  | _ => none }
def RecordReadsWrongFalsely : Prop := recordReadsRow.holds Try.pinned (OpenSpec.ofChange recordReadsWrong)

/-- 'remudalaw07.RecordAll': WHATEVER THE INPUT: true; the input reads as it did. -/
def recordAllSpec : ChangeSpec := { name := "recordAll", fn := fun _ => fun
  | [d] => { results := [.lit (.bool true)], args := [d] }
  | _ => none }
def recordAllRow : OpenClaim := { program := "ytfpocddpnoighaa", sum := "15f3dcc25318d85896927b2788bc9c8c17258f762815d57179a909cb03057289", func := "remuda/remudalaw07.RecordAll", spec := "recordAll", inPlace := ["internal/abi.NoEscape"], unfollowed := true, recurses := true, apart := false }
def RecordAllSaid : Prop := recordAllRow.holds Try.pinned (OpenSpec.ofChange recordAllSpec)

/-- ITS FALSE NEIGHBOUR: 'it returns false'. Refute it at one input. -/
def recordAllWrong : ChangeSpec := { name := "recordAll", fn := fun _ => fun
  | [d] => { results := [.lit (.bool false)], args := [d] }
  | _ => none }
def RecordAllWrongFalsely : Prop := recordAllRow.holds Try.pinned (OpenSpec.ofChange recordAllWrong)

/-- 'remudalaw10.MsgBytes': WHATEVER THE INPUT: true; the input reads as it did. -/
def msgBytesSpec : ChangeSpec := { name := "msgBytes", fn := fun _ => fun
  | [d] => { results := [.lit (.bool true)], args := [d] }
  | _ => none }
def msgBytesRow : OpenClaim := { program := "ytfpocddpnoighaa", sum := "15f3dcc25318d85896927b2788bc9c8c17258f762815d57179a909cb03057289", func := "remuda/remudalaw10.MsgBytes", spec := "msgBytes", inPlace := ["internal/abi.NoEscape"], unfollowed := true, recurses := true, apart := false }
def MsgBytesSaid : Prop := msgBytesRow.holds Try.pinned (OpenSpec.ofChange msgBytesSpec)

/-- ITS FALSE NEIGHBOUR: 'it returns false'. Refute it at one input. -/
def msgBytesWrong : ChangeSpec := { name := "msgBytes", fn := fun _ => fun
  | [d] => { results := [.lit (.bool false)], args := [d] }
  | _ => none }
def MsgBytesWrongFalsely : Prop := msgBytesRow.holds Try.pinned (OpenSpec.ofChange msgBytesWrong)

/-- 'remudalaw10.MsgReads': WHATEVER THE INPUT: true; the input reads as it did. -/
def msgReadsSpec : ChangeSpec := { name := "msgReads", fn := fun _ => fun
  | [d] => { results := [.lit (.bool true)], args := [d] }
  | _ => none }
def msgReadsRow : OpenClaim := { program := "ytfpocddpnoighaa", sum := "15f3dcc25318d85896927b2788bc9c8c17258f762815d57179a909cb03057289", func := "remuda/remudalaw10.MsgReads", spec := "msgReads", inPlace := ["internal/abi.NoEscape"], unfollowed := true, recurses := true, apart := false }
def MsgReadsSaid : Prop := msgReadsRow.holds Try.pinned (OpenSpec.ofChange msgReadsSpec)

/-- ITS FALSE NEIGHBOUR: 'it returns false'. Refute it at one input. -/
def msgReadsWrong : ChangeSpec := { name := "msgReads", fn := fun _ => fun
  | [d] => { results := [.lit (.bool false)], args := [d] }
  | _ => none }
def MsgReadsWrongFalsely : Prop := msgReadsRow.holds Try.pinned (OpenSpec.ofChange msgReadsWrong)

/-- 'remudalaw10.MsgUnlike': WHATEVER THE INPUT: true; the input reads as it did. -/
def msgUnlikeSpec : ChangeSpec := { name := "msgUnlike", fn := fun _ => fun
  | [d1, d2, d3] => { results := [.lit (.bool true)], args := [d1, d2, d3] }
  | _ => none }
def msgUnlikeRow : OpenClaim := { program := "ytfpocddpnoighaa", sum := "15f3dcc25318d85896927b2788bc9c8c17258f762815d57179a909cb03057289", func := "remuda/remudalaw10.MsgUnlike", spec := "msgUnlike", inPlace := ["internal/abi.NoEscape"], unfollowed := true, recurses := true, apart := false }
def MsgUnlikeSaid : Prop := msgUnlikeRow.holds Try.pinned (OpenSpec.ofChange msgUnlikeSpec)

/-- ITS FALSE NEIGHBOUR: 'it returns false'. Refute it at one input. -/
def msgUnlikeWrong : ChangeSpec := { name := "msgUnlike", fn := fun _ => fun
  | [d1, d2, d3] => { results := [.lit (.bool false)], args := [d1, d2, d3] }
  | _ => none }
def MsgUnlikeWrongFalsely : Prop := msgUnlikeRow.holds Try.pinned (OpenSpec.ofChange msgUnlikeWrong)

/- THE SECOND FORM. 'bulk': how many values and letters a reading holds, each counted each time it is reached (what is shared counts as often as it is met; a slice's spare places count too). A statement '..UptoSaid' is the law's where the arguments, and the package variables that the reading takes, are together of bulk at most 1048576: NARROWER than '..Said'. Prove '..Said' where nothing that the law and all that it calls make is longer than what came in: it says more and counts as full. Else prove '..UptoSaid'. A law counts once. -/
mutual
def uptoBulk {H : Type} : DataW H → Nat
  | .lit (.string bytes) => bytes.length + 1
  | .lit _ => 1
  | .nil => 1
  | .ptr d => uptoBulk d + 1
  | .slice elems spare => uptoBulkAll elems + uptoBulkAll spare + 1
  | .agg parts => uptoBulkAll parts + 1
  | .iface _ d => uptoBulk d + 1
  | .map entries => uptoBulkEntries entries + 1
  | .held _ => 1
def uptoBulkAll {H : Type} : List (DataW H) → Nat
  | [] => 0
  | d :: r => uptoBulk d + uptoBulkAll r
def uptoBulkEntries {H : Type} : List (Lit × DataW H) → Nat
  | [] => 0
  | x :: r => uptoBulkEntry x + uptoBulkEntries r
def uptoBulkEntry {H : Type} : Lit × DataW H → Nat
  | (.string bytes, d) => bytes.length + uptoBulk d + 1
  | (_, d) => uptoBulk d + 1
 end
def uptoSmall : (H : Type) → List (DataW H) → Bool := fun _ ds => decide (uptoBulkAll ds ≤ 1048576)
def OpenSpec.upto (s : _root_.Go.ChangeSpec) : _root_.Go.OpenSpec := { _root_.Go.OpenSpec.ofChange s with cond := some uptoSmall }

/-- 'remudalaw02.WireJoins', WHERE WHAT IT READS IS OF BULK AT MOST 1048576: true; the input reads as it did. -/
def wireJoinsUptoRow : OpenClaim := { program := "ytfpocddpnoighaa", sum := "15f3dcc25318d85896927b2788bc9c8c17258f762815d57179a909cb03057289", func := "remuda/remudalaw02.WireJoins", spec := "wireJoins", inPlace := ["internal/abi.NoEscape"], apart := false, narrowed := true }
def WireJoinsUptoSaid : Prop := wireJoinsUptoRow.holds Try.pinned (OpenSpec.upto wireJoinsSpec)

/-- 'remudalaw02.WireNone', WHERE WHAT IT READS IS OF BULK AT MOST 1048576: true; the input reads as it did. -/
def wireNoneUptoRow : OpenClaim := { program := "ytfpocddpnoighaa", sum := "15f3dcc25318d85896927b2788bc9c8c17258f762815d57179a909cb03057289", func := "remuda/remudalaw02.WireNone", spec := "wireNone", inPlace := ["internal/abi.NoEscape"], apart := false, narrowed := true }
def WireNoneUptoSaid : Prop := wireNoneUptoRow.holds Try.pinned (OpenSpec.upto wireNoneSpec)

/-- 'remudalaw02.WireBreaks', WHERE WHAT IT READS IS OF BULK AT MOST 1048576: true; the input reads as it did. -/
def wireBreaksUptoRow : OpenClaim := { program := "ytfpocddpnoighaa", sum := "15f3dcc25318d85896927b2788bc9c8c17258f762815d57179a909cb03057289", func := "remuda/remudalaw02.WireBreaks", spec := "wireBreaks", inPlace := ["internal/abi.NoEscape"], apart := false, narrowed := true }
def WireBreaksUptoSaid : Prop := wireBreaksUptoRow.holds Try.pinned (OpenSpec.upto wireBreaksSpec)

/-- 'remudalaw02.WirePuts', WHERE WHAT IT READS IS OF BULK AT MOST 1048576: true; the input reads as it did. -/
def wirePutsUptoRow : OpenClaim := { program := "ytfpocddpnoighaa", sum := "15f3dcc25318d85896927b2788bc9c8c17258f762815d57179a909cb03057289", func := "remuda/remudalaw02.WirePuts", spec := "wirePuts", inPlace := ["internal/abi.NoEscape"], apart := false, narrowed := true }
def WirePutsUptoSaid : Prop := wirePutsUptoRow.holds Try.pinned (OpenSpec.upto wirePutsSpec)

/-- 'remudalaw02.WireReads', WHERE WHAT IT READS IS OF BULK AT MOST 1048576: true; the input reads as it did. -/
def wireReadsUptoRow : OpenClaim := { program := "ytfpocddpnoighaa", sum := "15f3dcc25318d85896927b2788bc9c8c17258f762815d57179a909cb03057289", func := "remuda/remudalaw02.WireReads", spec := "wireReads", inPlace := ["internal/abi.NoEscape"], apart := false, narrowed := true }
def WireReadsUptoSaid : Prop := wireReadsUptoRow.holds Try.pinned (OpenSpec.upto wireReadsSpec)

/-- 'remudalaw06.ItemOrders', WHERE WHAT IT READS IS OF BULK AT MOST 1048576: true; the input reads as it did. -/
def itemOrdersUptoRow : OpenClaim := { program := "ytfpocddpnoighaa", sum := "15f3dcc25318d85896927b2788bc9c8c17258f762815d57179a909cb03057289", func := "remuda/remudalaw06.ItemOrders", spec := "itemOrders", inPlace := ["internal/abi.NoEscape"], apart := false, narrowed := true }
def ItemOrdersUptoSaid : Prop := itemOrdersUptoRow.holds Try.pinned (OpenSpec.upto itemOrdersSpec)

/-- 'remudalaw06.ItemRights', WHERE WHAT IT READS IS OF BULK AT MOST 1048576: true; the input reads as it did. -/
def itemRightsUptoRow : OpenClaim := { program := "ytfpocddpnoighaa", sum := "15f3dcc25318d85896927b2788bc9c8c17258f762815d57179a909cb03057289", func := "remuda/remudalaw06.ItemRights", spec := "itemRights", inPlace := ["internal/abi.NoEscape"], unfollowed := true, recurses := true, apart := false, narrowed := true }
def ItemRightsUptoSaid : Prop := itemRightsUptoRow.holds Try.pinned (OpenSpec.upto itemRightsSpec)

/-- 'remudalaw06.ItemBytes', WHERE WHAT IT READS IS OF BULK AT MOST 1048576: true; the input reads as it did. -/
def itemBytesUptoRow : OpenClaim := { program := "ytfpocddpnoighaa", sum := "15f3dcc25318d85896927b2788bc9c8c17258f762815d57179a909cb03057289", func := "remuda/remudalaw06.ItemBytes", spec := "itemBytes", inPlace := ["internal/abi.NoEscape"], apart := false, narrowed := true }
def ItemBytesUptoSaid : Prop := itemBytesUptoRow.holds Try.pinned (OpenSpec.upto itemBytesSpec)

/-- 'remudalaw06.ItemJoins', WHERE WHAT IT READS IS OF BULK AT MOST 1048576: true; the input reads as it did. -/
def itemJoinsUptoRow : OpenClaim := { program := "ytfpocddpnoighaa", sum := "15f3dcc25318d85896927b2788bc9c8c17258f762815d57179a909cb03057289", func := "remuda/remudalaw06.ItemJoins", spec := "itemJoins", inPlace := ["internal/abi.NoEscape"], unfollowed := true, recurses := true, apart := false, narrowed := true }
def ItemJoinsUptoSaid : Prop := itemJoinsUptoRow.holds Try.pinned (OpenSpec.upto itemJoinsSpec)

/-- 'remudalaw07.RecordUnlike', WHERE WHAT IT READS IS OF BULK AT MOST 1048576: true; the input reads as it did. -/
def recordUnlikeUptoRow : OpenClaim := { program := "ytfpocddpnoighaa", sum := "15f3dcc25318d85896927b2788bc9c8c17258f762815d57179a909cb03057289", func := "remuda/remudalaw07.RecordUnlike", spec := "recordUnlike", inPlace := ["internal/abi.NoEscape"], unfollowed := true, recurses := true, apart := false, narrowed := true }
def RecordUnlikeUptoSaid : Prop := recordUnlikeUptoRow.holds Try.pinned (OpenSpec.upto recordUnlikeSpec)

/-- 'remudalaw07.RecordBytes', WHERE WHAT IT READS IS OF BULK AT MOST 1048576: true; the input reads as it did. -/
def recordBytesUptoRow : OpenClaim := { program := "ytfpocddpnoighaa", sum := "15f3dcc25318d85896927b2788bc9c8c17258f762815d57179a909cb03057289", func := "remuda/remudalaw07.RecordBytes", spec := "recordBytes", inPlace := ["internal/abi.NoEscape"], unfollowed := true, recurses := true, apart := false, narrowed := true }
def RecordBytesUptoSaid : Prop := recordBytesUptoRow.holds Try.pinned (OpenSpec.upto recordBytesSpec)

/-- 'remudalaw07.RecordReads', WHERE WHAT IT READS IS OF BULK AT MOST 1048576: true; the input reads as it did. -/
def recordReadsUptoRow : OpenClaim := { program := "ytfpocddpnoighaa", sum := "15f3dcc25318d85896927b2788bc9c8c17258f762815d57179a909cb03057289", func := "remuda/remudalaw07.RecordReads", spec := "recordReads", inPlace := ["internal/abi.NoEscape"], unfollowed := true, recurses := true, apart := false, narrowed := true }
def RecordReadsUptoSaid : Prop := recordReadsUptoRow.holds Try.pinned (OpenSpec.upto recordReadsSpec)

/-- 'remudalaw07.RecordAll', WHERE WHAT IT READS IS OF BULK AT MOST 1048576: true; the input reads as it did. -/
def recordAllUptoRow : OpenClaim := { program := "ytfpocddpnoighaa", sum := "15f3dcc25318d85896927b2788bc9c8c17258f762815d57179a909cb03057289", func := "remuda/remudalaw07.RecordAll", spec := "recordAll", inPlace := ["internal/abi.NoEscape"], unfollowed := true, recurses := true, apart := false, narrowed := true }
def RecordAllUptoSaid : Prop := recordAllUptoRow.holds Try.pinned (OpenSpec.upto recordAllSpec)

/-- 'remudalaw10.MsgBytes', WHERE WHAT IT READS IS OF BULK AT MOST 1048576: true; the input reads as it did. -/
def msgBytesUptoRow : OpenClaim := { program := "ytfpocddpnoighaa", sum := "15f3dcc25318d85896927b2788bc9c8c17258f762815d57179a909cb03057289", func := "remuda/remudalaw10.MsgBytes", spec := "msgBytes", inPlace := ["internal/abi.NoEscape"], unfollowed := true, recurses := true, apart := false, narrowed := true }
def MsgBytesUptoSaid : Prop := msgBytesUptoRow.holds Try.pinned (OpenSpec.upto msgBytesSpec)

/-- 'remudalaw10.MsgReads', WHERE WHAT IT READS IS OF BULK AT MOST 1048576: true; the input reads as it did. -/
def msgReadsUptoRow : OpenClaim := { program := "ytfpocddpnoighaa", sum := "15f3dcc25318d85896927b2788bc9c8c17258f762815d57179a909cb03057289", func := "remuda/remudalaw10.MsgReads", spec := "msgReads", inPlace := ["internal/abi.NoEscape"], unfollowed := true, recurses := true, apart := false, narrowed := true }
def MsgReadsUptoSaid : Prop := msgReadsUptoRow.holds Try.pinned (OpenSpec.upto msgReadsSpec)

/-- 'remudalaw10.MsgUnlike', WHERE WHAT IT READS IS OF BULK AT MOST 1048576: true; the input reads as it did. -/
def msgUnlikeUptoRow : OpenClaim := { program := "ytfpocddpnoighaa", sum := "15f3dcc25318d85896927b2788bc9c8c17258f762815d57179a909cb03057289", func := "remuda/remudalaw10.MsgUnlike", spec := "msgUnlike", inPlace := ["internal/abi.NoEscape"], unfollowed := true, recurses := true, apart := false, narrowed := true }
def MsgUnlikeUptoSaid : Prop := msgUnlikeUptoRow.holds Try.pinned (OpenSpec.upto msgUnlikeSpec)

end Rows
end Go.Proofs.Ytfpocddpnoighaa

/-
  No cell of these rows narrows 'for every input' (looked for: loops, veiled, ifaces, maps, wideKeys, modest, calm, conditions, laid).
  DERIVED. THE GIVEN ROWS OF THIS SEAT. 4 by the template 'for every input the law returns true; each argument reads behind the call as it read before'; 0 by the template 'total and deterministic' (their statements: YtmddcmfleipjjaaTotals.lean).
  GIVEN WITH THE SEED: the statements are not yours to turn. If you find one false, say at which input.
  Laid BY PROGRAM, IN A SANDBOX (cutbox-rows.mjs): the forced cells as the released guide's own fill.sh prints them over the translation 143de7fedf8146e7… (all of the seat's roots in one cut). By AI agents, Wed Nov 11 2026. No macro, syntax, notation, axiom, sorry.
-/
import Derived.Test.YtmddcmfleipjjaaChecked
import GoSem.Claim
import GoSem.ClaimJoined
import GoSem.ClaimMapViews
import Derived.JoinedTies
import Derived.KernelRfl
namespace Go.Proofs.Ytmddcmfleipjjaa
/- THE CELL 'sum', in the pinned program and in every row, IS THE sha256 OF THE DUMP (.gsa) THAT YtmddcmfleipjjaaProg.lean LOADS. Nothing in Lean hashes anything: it is a label: what it is worth is what the hold of that sum in a sandbox is worth. -/
noncomputable def Try.pinned : Pinned := { name := "ytmddcmfleipjjaa", sum := "143de7fedf8146e71f92c83007d2bc3e963d0980416e82c7426ee3182c3a7caa", checked := Try.checked }
namespace Rows
def none {H : Type} : Left H := { results := [], args := [] }

/-- 'remudalaw16.ArrowLeads': WHATEVER THE INPUT: true; the input reads as it did. -/
def arrowLeadsSpec : ChangeSpec := { name := "arrowLeads", fn := fun _ => fun
  | [d1, d2, d3] => { results := [.lit (.bool true)], args := [d1, d2, d3] }
  | _ => none }
def arrowLeadsRow : OpenClaim := { program := "ytmddcmfleipjjaa", sum := "143de7fedf8146e71f92c83007d2bc3e963d0980416e82c7426ee3182c3a7caa", func := "remuda/remudalaw16.ArrowLeads", spec := "arrowLeads", unfollowed := true, recurses := true, apart := false }
def ArrowLeadsSaid : Prop := arrowLeadsRow.holds Try.pinned (OpenSpec.ofChange arrowLeadsSpec)

/-- ITS FALSE NEIGHBOUR: 'it returns false'. Refute it at one input. -/
def arrowLeadsWrong : ChangeSpec := { name := "arrowLeads", fn := fun _ => fun
  | [d1, d2, d3] => { results := [.lit (.bool false)], args := [d1, d2, d3] }
  | _ => none }
def ArrowLeadsWrongFalsely : Prop := arrowLeadsRow.holds Try.pinned (OpenSpec.ofChange arrowLeadsWrong)

/-- 'remudalaw16.ArrowQueues': WHATEVER THE INPUT: true; the input reads as it did. -/
def arrowQueuesSpec : ChangeSpec := { name := "arrowQueues", fn := fun _ => fun
  | [d1, d2, d3] => { results := [.lit (.bool true)], args := [d1, d2, d3] }
  | _ => none }
def arrowQueuesRow : OpenClaim := { program := "ytmddcmfleipjjaa", sum := "143de7fedf8146e71f92c83007d2bc3e963d0980416e82c7426ee3182c3a7caa", func := "remuda/remudalaw16.ArrowQueues", spec := "arrowQueues", unfollowed := true, recurses := true, apart := false }
def ArrowQueuesSaid : Prop := arrowQueuesRow.holds Try.pinned (OpenSpec.ofChange arrowQueuesSpec)

/-- ITS FALSE NEIGHBOUR: 'it returns false'. Refute it at one input. -/
def arrowQueuesWrong : ChangeSpec := { name := "arrowQueues", fn := fun _ => fun
  | [d1, d2, d3] => { results := [.lit (.bool false)], args := [d1, d2, d3] }
  | _ => none }
def ArrowQueuesWrongFalsely : Prop := arrowQueuesRow.holds Try.pinned (OpenSpec.ofChange arrowQueuesWrong)

/-- 'remudalaw16.ArrowNone': WHATEVER THE INPUT: true; the input reads as it did. -/
def arrowNoneSpec : ChangeSpec := { name := "arrowNone", fn := fun _ => fun
  | [d1, d2] => { results := [.lit (.bool true)], args := [d1, d2] }
  | _ => none }
def arrowNoneRow : OpenClaim := { program := "ytmddcmfleipjjaa", sum := "143de7fedf8146e71f92c83007d2bc3e963d0980416e82c7426ee3182c3a7caa", func := "remuda/remudalaw16.ArrowNone", spec := "arrowNone", unfollowed := true, recurses := true, apart := false }
def ArrowNoneSaid : Prop := arrowNoneRow.holds Try.pinned (OpenSpec.ofChange arrowNoneSpec)

/-- ITS FALSE NEIGHBOUR: 'it returns false'. Refute it at one input. -/
def arrowNoneWrong : ChangeSpec := { name := "arrowNone", fn := fun _ => fun
  | [d1, d2] => { results := [.lit (.bool false)], args := [d1, d2] }
  | _ => none }
def ArrowNoneWrongFalsely : Prop := arrowNoneRow.holds Try.pinned (OpenSpec.ofChange arrowNoneWrong)

/-- 'remudalaw16.ArrowPlays': WHATEVER THE INPUT: true; the input reads as it did. -/
def arrowPlaysSpec : ChangeSpec := { name := "arrowPlays", fn := fun _ => fun
  | [d1, d2, d3] => { results := [.lit (.bool true)], args := [d1, d2, d3] }
  | _ => none }
def arrowPlaysRow : OpenClaim := { program := "ytmddcmfleipjjaa", sum := "143de7fedf8146e71f92c83007d2bc3e963d0980416e82c7426ee3182c3a7caa", func := "remuda/remudalaw16.ArrowPlays", spec := "arrowPlays", unfollowed := true, recurses := true, apart := false }
def ArrowPlaysSaid : Prop := arrowPlaysRow.holds Try.pinned (OpenSpec.ofChange arrowPlaysSpec)

/-- ITS FALSE NEIGHBOUR: 'it returns false'. Refute it at one input. -/
def arrowPlaysWrong : ChangeSpec := { name := "arrowPlays", fn := fun _ => fun
  | [d1, d2, d3] => { results := [.lit (.bool false)], args := [d1, d2, d3] }
  | _ => none }
def ArrowPlaysWrongFalsely : Prop := arrowPlaysRow.holds Try.pinned (OpenSpec.ofChange arrowPlaysWrong)

/- THE SECOND FORM. 'bulk': how many values and letters a reading holds, each counted each time it is reached (what is shared counts as often as it is met; a slice's spare places count too). A statement '..UptoSaid' is the law's where the arguments, and the package variables that the reading takes, are together of bulk at most 1048576: NARROWER than '..Said'. Prove '..Said' where nothing that the law and all that it calls make is longer than what came in: it says more and counts as full. Else prove '..UptoSaid'. A law counts once. -/
mutual
def uptoBulk {H : Type} : DataW H → Nat
  | .lit (.string bytes) => bytes.length + 1
  | .lit _ => 1
  | .nil => 1
  | .ptr d => uptoBulk d + 1
  | .slice elems spare => uptoBulkAll elems + uptoBulkAll spare + 1
  | .agg parts => uptoBulkAll parts + 1
  | .iface _ d => uptoBulk d + 1
  | .map entries => uptoBulkEntries entries + 1
  | .held _ => 1
def uptoBulkAll {H : Type} : List (DataW H) → Nat
  | [] => 0
  | d :: r => uptoBulk d + uptoBulkAll r
def uptoBulkEntries {H : Type} : List (Lit × DataW H) → Nat
  | [] => 0
  | x :: r => uptoBulkEntry x + uptoBulkEntries r
def uptoBulkEntry {H : Type} : Lit × DataW H → Nat
  | (.string bytes, d) => bytes.length + uptoBulk d + 1
  | (_, d) => uptoBulk d + 1
 end
def uptoSmall : (H : Type) → List (DataW H) → Bool := fun _ ds => decide (uptoBulkAll ds ≤ 1048576)
def OpenSpec.upto (s : _root_.Go.ChangeSpec) : _root_.Go.OpenSpec := { _root_.Go.OpenSpec.ofChange s with cond := some uptoSmall }

/-- 'remudalaw16.ArrowLeads', WHERE WHAT IT READS IS OF BULK AT MOST 1048576: true; the input reads as it did. -/
def arrowLeadsUptoRow : OpenClaim := { program := "ytmddcmfleipjjaa", sum := "143de7fedf8146e71f92c83007d2bc3e963d0980416e82c7426ee3182c3a7caa", func := "remuda/remudalaw16.ArrowLeads", spec := "arrowLeads", unfollowed := true, recurses := true, apart := false, narrowed := true }
def ArrowLeadsUptoSaid : Prop := arrowLeadsUptoRow.holds Try.pinned (OpenSpec.upto arrowLeadsSpec)

/-- 'remudalaw16.ArrowQueues', WHERE WHAT IT READS IS OF BULK AT MOST 1048576: true; the input reads as it did. -/
def arrowQueuesUptoRow : OpenClaim := { program := "ytmddcmfleipjjaa", sum := "143de7fedf8146e71f92c83007d2bc3e963d0980416e82c7426ee3182c3a7caa", func := "remuda/remudalaw16.ArrowQueues", spec := "arrowQueues", unfollowed := true, recurses := true, apart := false, narrowed := true }
def ArrowQueuesUptoSaid : Prop := arrowQueuesUptoRow.holds Try.pinned (OpenSpec.upto arrowQueuesSpec)

/-- 'remudalaw16.ArrowNone', WHERE WHAT IT READS IS OF BULK AT MOST 1048576: true; the input reads as it did. -/
def arrowNoneUptoRow : OpenClaim := { program := "ytmddcmfleipjjaa", sum := "143de7fedf8146e71f92c83007d2bc3e963d0980416e82c7426ee3182c3a7caa", func := "remuda/remudalaw16.ArrowNone", spec := "arrowNone", unfollowed := true, recurses := true, apart := false, narrowed := true }
def ArrowNoneUptoSaid : Prop := arrowNoneUptoRow.holds Try.pinned (OpenSpec.upto arrowNoneSpec)

/-- 'remudalaw16.ArrowPlays', WHERE WHAT IT READS IS OF BULK AT MOST 1048576: true; the input reads as it did. -/
def arrowPlaysUptoRow : OpenClaim := { program := "ytmddcmfleipjjaa", sum := "143de7fedf8146e71f92c83007d2bc3e963d0980416e82c7426ee3182c3a7caa", func := "remuda/remudalaw16.ArrowPlays", spec := "arrowPlays", unfollowed := true, recurses := true, apart := false, narrowed := true }
def ArrowPlaysUptoSaid : Prop := arrowPlaysUptoRow.holds Try.pinned (OpenSpec.upto arrowPlaysSpec)

end Rows
end Go.Proofs.Ytmddcmfleipjjaa

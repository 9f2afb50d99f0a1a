/-
  No cell of these rows narrows 'for every input' (looked for: loops, veiled, ifaces, maps, wideKeys, modest, calm, conditions, laid).
  DERIVED. THE GIVEN ROWS OF THIS SEAT. 10 by the template 'for every input the law returns true; each argument reads behind the call as it read before'; 0 by the template 'total and deterministic' (their statements: YtljdiaokjocfpaaTotals.lean).
  GIVEN WITH THE SEED: the statements are not yours to turn. If you find one false, say at which input.
  Laid BY PROGRAM, IN A SANDBOX (cutbox-rows.mjs): the forced cells as the released guide's own fill.sh prints them over the translation 0ed82e7d4d286e71… (all of the seat's roots in one cut). By AI agents, Wed Nov 11 2026. No macro, syntax, notation, axiom, sorry.
-/
import Derived.Test.YtljdiaokjocfpaaChecked
import GoSem.Claim
import GoSem.ClaimJoined
import GoSem.ClaimMapViews
import Derived.JoinedTies
import Derived.KernelRfl
namespace Go.Proofs.Ytljdiaokjocfpaa
/- THE CELL 'sum', in the pinned program and in every row, IS THE sha256 OF THE DUMP (.gsa) THAT YtljdiaokjocfpaaProg.lean LOADS. Nothing in Lean hashes anything: it is a label: what it is worth is what the hold of that sum in a sandbox is worth. -/
noncomputable def Try.pinned : Pinned := { name := "ytljdiaokjocfpaa", sum := "0ed82e7d4d286e71973c0dd8e9d8243fdd9965991007c84f02ba0bdec7bd9b5c", checked := Try.checked }
namespace Rows
def none {H : Type} : Left H := { results := [], args := [] }

/-- 'remudalaw01.CrcSums': WHATEVER THE INPUT: true; the input reads as it did. -/
def crcSumsSpec : ChangeSpec := { name := "crcSums", fn := fun _ => fun
  | [d] => { results := [.lit (.bool true)], args := [d] }
  | _ => none }
def crcSumsRow : OpenClaim := { program := "ytljdiaokjocfpaa", sum := "0ed82e7d4d286e71973c0dd8e9d8243fdd9965991007c84f02ba0bdec7bd9b5c", func := "remuda/remudalaw01.CrcSums", spec := "crcSums", apart := false }
def CrcSumsSaid : Prop := crcSumsRow.holds Try.pinned (OpenSpec.ofChange crcSumsSpec)

/-- ITS FALSE NEIGHBOUR: 'it returns false'. Refute it at one input. -/
def crcSumsWrong : ChangeSpec := { name := "crcSums", fn := fun _ => fun
  | [d] => { results := [.lit (.bool false)], args := [d] }
  | _ => none }
def CrcSumsWrongFalsely : Prop := crcSumsRow.holds Try.pinned (OpenSpec.ofChange crcSumsWrong)

/-- 'remudalaw01.CrcGoes': WHATEVER THE INPUT: true; the input reads as it did. -/
def crcGoesSpec : ChangeSpec := { name := "crcGoes", fn := fun _ => fun
  | [d1, d2] => { results := [.lit (.bool true)], args := [d1, d2] }
  | _ => none }
def crcGoesRow : OpenClaim := { program := "ytljdiaokjocfpaa", sum := "0ed82e7d4d286e71973c0dd8e9d8243fdd9965991007c84f02ba0bdec7bd9b5c", func := "remuda/remudalaw01.CrcGoes", spec := "crcGoes", apart := false }
def CrcGoesSaid : Prop := crcGoesRow.holds Try.pinned (OpenSpec.ofChange crcGoesSpec)

/-- ITS FALSE NEIGHBOUR: 'it returns false'. Refute it at one input. -/
def crcGoesWrong : ChangeSpec := { name := "crcGoes", fn := fun _ => fun
  | [d1, d2] => { results := [.lit (.bool false)], args := [d1, d2] }
  | _ => none }
def CrcGoesWrongFalsely : Prop := crcGoesRow.holds Try.pinned (OpenSpec.ofChange crcGoesWrong)

/-- 'remudalaw01.CrcTells': WHATEVER THE INPUT: true; the input reads as it did. -/
def crcTellsSpec : ChangeSpec := { name := "crcTells", fn := fun _ => fun
  | [d1, d2, d3] => { results := [.lit (.bool true)], args := [d1, d2, d3] }
  | _ => none }
def crcTellsRow : OpenClaim := { program := "ytljdiaokjocfpaa", sum := "0ed82e7d4d286e71973c0dd8e9d8243fdd9965991007c84f02ba0bdec7bd9b5c", func := "remuda/remudalaw01.CrcTells", spec := "crcTells", apart := false }
def CrcTellsSaid : Prop := crcTellsRow.holds Try.pinned (OpenSpec.ofChange crcTellsSpec)

/-- ITS FALSE NEIGHBOUR: 'it returns false'. Refute it at one input. -/
def crcTellsWrong : ChangeSpec := { name := "crcTells", fn := fun _ => fun
  | [d1, d2, d3] => { results := [.lit (.bool false)], args := [d1, d2, d3] }
  | _ => none }
def CrcTellsWrongFalsely : Prop := crcTellsRow.holds Try.pinned (OpenSpec.ofChange crcTellsWrong)

/-- 'remudalaw01.CrcJoins': WHATEVER THE INPUT: true; the input reads as it did. -/
def crcJoinsSpec : ChangeSpec := { name := "crcJoins", fn := fun _ => fun
  | [d1, d2, d3] => { results := [.lit (.bool true)], args := [d1, d2, d3] }
  | _ => none }
def crcJoinsRow : OpenClaim := { program := "ytljdiaokjocfpaa", sum := "0ed82e7d4d286e71973c0dd8e9d8243fdd9965991007c84f02ba0bdec7bd9b5c", func := "remuda/remudalaw01.CrcJoins", spec := "crcJoins", apart := false }
def CrcJoinsSaid : Prop := crcJoinsRow.holds Try.pinned (OpenSpec.ofChange crcJoinsSpec)

/-- ITS FALSE NEIGHBOUR: 'it returns false'. Refute it at one input. -/
def crcJoinsWrong : ChangeSpec := { name := "crcJoins", fn := fun _ => fun
  | [d1, d2, d3] => { results := [.lit (.bool false)], args := [d1, d2, d3] }
  | _ => none }
def CrcJoinsWrongFalsely : Prop := crcJoinsRow.holds Try.pinned (OpenSpec.ofChange crcJoinsWrong)

/-- 'remudalaw13.WindowPlays': WHATEVER THE INPUT: true; the input reads as it did. -/
def windowPlaysSpec : ChangeSpec := { name := "windowPlays", fn := fun _ => fun
  | [d1, d2, d3] => { results := [.lit (.bool true)], args := [d1, d2, d3] }
  | _ => none }
def windowPlaysRow : OpenClaim := { program := "ytljdiaokjocfpaa", sum := "0ed82e7d4d286e71973c0dd8e9d8243fdd9965991007c84f02ba0bdec7bd9b5c", func := "remuda/remudalaw13.WindowPlays", spec := "windowPlays", apart := false }
def WindowPlaysSaid : Prop := windowPlaysRow.holds Try.pinned (OpenSpec.ofChange windowPlaysSpec)

/-- ITS FALSE NEIGHBOUR: 'it returns false'. Refute it at one input. -/
def windowPlaysWrong : ChangeSpec := { name := "windowPlays", fn := fun _ => fun
  | [d1, d2, d3] => { results := [.lit (.bool false)], args := [d1, d2, d3] }
  | _ => none }
def WindowPlaysWrongFalsely : Prop := windowPlaysRow.holds Try.pinned (OpenSpec.ofChange windowPlaysWrong)

/-- 'remudalaw13.WindowOnce': WHATEVER THE INPUT: true; the input reads as it did. -/
def windowOnceSpec : ChangeSpec := { name := "windowOnce", fn := fun _ => fun
  | [d] => { results := [.lit (.bool true)], args := [d] }
  | _ => none }
def windowOnceRow : OpenClaim := { program := "ytljdiaokjocfpaa", sum := "0ed82e7d4d286e71973c0dd8e9d8243fdd9965991007c84f02ba0bdec7bd9b5c", func := "remuda/remudalaw13.WindowOnce", spec := "windowOnce", apart := false }
def WindowOnceSaid : Prop := windowOnceRow.holds Try.pinned (OpenSpec.ofChange windowOnceSpec)

/-- ITS FALSE NEIGHBOUR: 'it returns false'. Refute it at one input. -/
def windowOnceWrong : ChangeSpec := { name := "windowOnce", fn := fun _ => fun
  | [d] => { results := [.lit (.bool false)], args := [d] }
  | _ => none }
def WindowOnceWrongFalsely : Prop := windowOnceRow.holds Try.pinned (OpenSpec.ofChange windowOnceWrong)

/-- 'remudalaw18.LeaseTimes': WHATEVER THE INPUT: true; the input reads as it did. -/
def leaseTimesSpec : ChangeSpec := { name := "leaseTimes", fn := fun _ => fun
  | [d1, d2, d3] => { results := [.lit (.bool true)], args := [d1, d2, d3] }
  | _ => none }
def leaseTimesRow : OpenClaim := { program := "ytljdiaokjocfpaa", sum := "0ed82e7d4d286e71973c0dd8e9d8243fdd9965991007c84f02ba0bdec7bd9b5c", func := "remuda/remudalaw18.LeaseTimes", spec := "leaseTimes", unfollowed := true, recurses := true, apart := false }
def LeaseTimesSaid : Prop := leaseTimesRow.holds Try.pinned (OpenSpec.ofChange leaseTimesSpec)

/-- ITS FALSE NEIGHBOUR: 'it returns false'. Refute it at one input. -/
def leaseTimesWrong : ChangeSpec := { name := "leaseTimes", fn := fun _ => fun
  | [d1, d2, d3] => { results := [.lit (.bool false)], args := [d1, d2, d3] }
  | _ => none }
def LeaseTimesWrongFalsely : Prop := leaseTimesRow.holds Try.pinned (OpenSpec.ofChange leaseTimesWrong)

/-- 'remudalaw18.LeaseAlone': WHATEVER THE INPUT: true; the input reads as it did. -/
def leaseAloneSpec : ChangeSpec := { name := "leaseAlone", fn := fun _ => fun
  | [d1, d2] => { results := [.lit (.bool true)], args := [d1, d2] }
  | _ => none }
def leaseAloneRow : OpenClaim := { program := "ytljdiaokjocfpaa", sum := "0ed82e7d4d286e71973c0dd8e9d8243fdd9965991007c84f02ba0bdec7bd9b5c", func := "remuda/remudalaw18.LeaseAlone", spec := "leaseAlone", unfollowed := true, recurses := true, apart := false }
def LeaseAloneSaid : Prop := leaseAloneRow.holds Try.pinned (OpenSpec.ofChange leaseAloneSpec)

/-- ITS FALSE NEIGHBOUR: 'it returns false'. Refute it at one input. -/
def leaseAloneWrong : ChangeSpec := { name := "leaseAlone", fn := fun _ => fun
  | [d1, d2] => { results := [.lit (.bool false)], args := [d1, d2] }
  | _ => none }
def LeaseAloneWrongFalsely : Prop := leaseAloneRow.holds Try.pinned (OpenSpec.ofChange leaseAloneWrong)

/-- 'remudalaw18.LeasePlays': WHATEVER THE INPUT: true; the input reads as it did. -/
def leasePlaysSpec : ChangeSpec := { name := "leasePlays", fn := fun _ => fun
  | [d1, d2] => { results := [.lit (.bool true)], args := [d1, d2] }
  | _ => none }
def leasePlaysRow : OpenClaim := { program := "ytljdiaokjocfpaa", sum := "0ed82e7d4d286e71973c0dd8e9d8243fdd9965991007c84f02ba0bdec7bd9b5c", func := "remuda/remudalaw18.LeasePlays", spec := "leasePlays", unfollowed := true, recurses := true, apart := false }
def LeasePlaysSaid : Prop := leasePlaysRow.holds Try.pinned (OpenSpec.ofChange leasePlaysSpec)

/-- ITS FALSE NEIGHBOUR: 'it returns false'. Refute it at one input. -/
def leasePlaysWrong : ChangeSpec := { name := "leasePlays", fn := fun _ => fun
  | [d1, d2] => { results := [.lit (.bool false)], args := [d1, d2] }
  | _ => none }
def LeasePlaysWrongFalsely : Prop := leasePlaysRow.holds Try.pinned (OpenSpec.ofChange leasePlaysWrong)

/-- 'remudalaw18.LeaseNone': WHATEVER THE INPUT: true; the input reads as it did. -/
def leaseNoneSpec : ChangeSpec := { name := "leaseNone", fn := fun _ => fun
  | [d1, d2] => { results := [.lit (.bool true)], args := [d1, d2] }
  | _ => none }
def leaseNoneRow : OpenClaim := { program := "ytljdiaokjocfpaa", sum := "0ed82e7d4d286e71973c0dd8e9d8243fdd9965991007c84f02ba0bdec7bd9b5c", func := "remuda/remudalaw18.LeaseNone", spec := "leaseNone", unfollowed := true, recurses := true, apart := false }
def LeaseNoneSaid : Prop := leaseNoneRow.holds Try.pinned (OpenSpec.ofChange leaseNoneSpec)

/-- ITS FALSE NEIGHBOUR: 'it returns false'. Refute it at one input. -/
def leaseNoneWrong : ChangeSpec := { name := "leaseNone", fn := fun _ => fun
  | [d1, d2] => { results := [.lit (.bool false)], args := [d1, d2] }
  | _ => none }
def LeaseNoneWrongFalsely : Prop := leaseNoneRow.holds Try.pinned (OpenSpec.ofChange leaseNoneWrong)

/- THE SECOND FORM. 'bulk': how many values and letters a reading holds, each counted each time it is reached (what is shared counts as often as it is met; a slice's spare places count too). A statement '..UptoSaid' is the law's where the arguments, and the package variables that the reading takes, are together of bulk at most 1048576: NARROWER than '..Said'. Prove '..Said' where nothing that the law and all that it calls make is longer than what came in: it says more and counts as full. Else prove '..UptoSaid'. A law counts once. -/
mutual
def uptoBulk {H : Type} : DataW H → Nat
  | .lit (.string bytes) => bytes.length + 1
  | .lit _ => 1
  | .nil => 1
  | .ptr d => uptoBulk d + 1
  | .slice elems spare => uptoBulkAll elems + uptoBulkAll spare + 1
  | .agg parts => uptoBulkAll parts + 1
  | .iface _ d => uptoBulk d + 1
  | .map entries => uptoBulkEntries entries + 1
  | .held _ => 1
def uptoBulkAll {H : Type} : List (DataW H) → Nat
  | [] => 0
  | d :: r => uptoBulk d + uptoBulkAll r
def uptoBulkEntries {H : Type} : List (Lit × DataW H) → Nat
  | [] => 0
  | x :: r => uptoBulkEntry x + uptoBulkEntries r
def uptoBulkEntry {H : Type} : Lit × DataW H → Nat
  | (.string bytes, d) => bytes.length + uptoBulk d + 1
  | (_, d) => uptoBulk d + 1
 end
def uptoSmall : (H : Type) → List (DataW H) → Bool := fun _ ds => decide (uptoBulkAll ds ≤ 1048576)
def OpenSpec.upto (s : _root_.Go.ChangeSpec) : _root_.Go.OpenSpec := { _root_.Go.OpenSpec.ofChange s with cond := some uptoSmall }

/-- 'remudalaw01.CrcSums', WHERE WHAT IT READS IS OF BULK AT MOST 1048576: true; the input reads as it did. -/
def crcSumsUptoRow : OpenClaim := { program := "ytljdiaokjocfpaa", sum := "0ed82e7d4d286e71973c0dd8e9d8243fdd9965991007c84f02ba0bdec7bd9b5c", func := "remuda/remudalaw01.CrcSums", spec := "crcSums", apart := false, narrowed := true }
def CrcSumsUptoSaid : Prop := crcSumsUptoRow.holds Try.pinned (OpenSpec.upto crcSumsSpec)

/-- 'remudalaw01.CrcGoes', WHERE WHAT IT READS IS OF BULK AT MOST 1048576: true; the input reads as it did. -/
def crcGoesUptoRow : OpenClaim := { program := "ytljdiaokjocfpaa", sum := "0ed82e7d4d286e71973c0dd8e9d8243fdd9965991007c84f02ba0bdec7bd9b5c", func := "remuda/remudalaw01.CrcGoes", spec := "crcGoes", apart := false, narrowed := true }
def CrcGoesUptoSaid : Prop := crcGoesUptoRow.holds Try.pinned (OpenSpec.upto crcGoesSpec)

/-- 'remudalaw01.CrcTells', WHERE WHAT IT READS IS OF BULK AT MOST 1048576: true; the input reads as it did. -/
def crcTellsUptoRow : OpenClaim := { program := "ytljdiaokjocfpaa", sum := "0ed82e7d4d286e71973c0dd8e9d8243fdd9965991007c84f02ba0bdec7bd9b5c", func := "remuda/remudalaw01.CrcTells", spec := "crcTells", apart := false, narrowed := true }
def CrcTellsUptoSaid : Prop := crcTellsUptoRow.holds Try.pinned (OpenSpec.upto crcTellsSpec)

/-- 'remudalaw01.CrcJoins', WHERE WHAT IT READS IS OF BULK AT MOST 1048576: true; the input reads as it did. -/
def crcJoinsUptoRow : OpenClaim := { program := "ytljdiaokjocfpaa", sum := "0ed82e7d4d286e71973c0dd8e9d8243fdd9965991007c84f02ba0bdec7bd9b5c", func := "remuda/remudalaw01.CrcJoins", spec := "crcJoins", apart := false, narrowed := true }
def CrcJoinsUptoSaid : Prop := crcJoinsUptoRow.holds Try.pinned (OpenSpec.upto crcJoinsSpec)

/-- 'remudalaw13.WindowPlays', WHERE WHAT IT READS IS OF BULK AT MOST 1048576: true; the input reads as it did. -/
def windowPlaysUptoRow : OpenClaim := { program := "ytljdiaokjocfpaa", sum := "0ed82e7d4d286e71973c0dd8e9d8243fdd9965991007c84f02ba0bdec7bd9b5c", func := "remuda/remudalaw13.WindowPlays", spec := "windowPlays", apart := false, narrowed := true }
def WindowPlaysUptoSaid : Prop := windowPlaysUptoRow.holds Try.pinned (OpenSpec.upto windowPlaysSpec)

/-- 'remudalaw13.WindowOnce', WHERE WHAT IT READS IS OF BULK AT MOST 1048576: true; the input reads as it did. -/
def windowOnceUptoRow : OpenClaim := { program := "ytljdiaokjocfpaa", sum := "0ed82e7d4d286e71973c0dd8e9d8243fdd9965991007c84f02ba0bdec7bd9b5c", func := "remuda/remudalaw13.WindowOnce", spec := "windowOnce", apart := false, narrowed := true }
def WindowOnceUptoSaid : Prop := windowOnceUptoRow.holds Try.pinned (OpenSpec.upto windowOnceSpec)

/-- 'remudalaw18.LeaseTimes', WHERE WHAT IT READS IS OF BULK AT MOST 1048576: true; the input reads as it did. -/
def leaseTimesUptoRow : OpenClaim := { program := "ytljdiaokjocfpaa", sum := "0ed82e7d4d286e71973c0dd8e9d8243fdd9965991007c84f02ba0bdec7bd9b5c", func := "remuda/remudalaw18.LeaseTimes", spec := "leaseTimes", unfollowed := true, recurses := true, apart := false, narrowed := true }
def LeaseTimesUptoSaid : Prop := leaseTimesUptoRow.holds Try.pinned (OpenSpec.upto leaseTimesSpec)

/-- 'remudalaw18.LeaseAlone', WHERE WHAT IT READS IS OF BULK AT MOST 1048576: true; the input reads as it did. -/
def leaseAloneUptoRow : OpenClaim := { program := "ytljdiaokjocfpaa", sum := "0ed82e7d4d286e71973c0dd8e9d8243fdd9965991007c84f02ba0bdec7bd9b5c", func := "remuda/remudalaw18.LeaseAlone", spec := "leaseAlone", unfollowed := true, recurses := true, apart := false, narrowed := true }
def LeaseAloneUptoSaid : Prop := leaseAloneUptoRow.holds Try.pinned (OpenSpec.upto leaseAloneSpec)

/-- 'remudalaw18.LeasePlays', WHERE WHAT IT READS IS OF BULK AT MOST 1048576: true; the input reads as it did. -/
def leasePlaysUptoRow : OpenClaim := { program := "ytljdiaokjocfpaa", sum := "0ed82e7d4d286e71973c0dd8e9d8243fdd9965991007c84f02ba0bdec7bd9b5c", func := "remuda/remudalaw18.LeasePlays", spec := "leasePlays", unfollowed := true, recurses := true, apart := false, narrowed := true }
def LeasePlaysUptoSaid : Prop := leasePlaysUptoRow.holds Try.pinned (OpenSpec.upto leasePlaysSpec)

/-- 'remudalaw18.LeaseNone', WHERE WHAT IT READS IS OF BULK AT MOST 1048576: true; the input reads as it did. -/
def leaseNoneUptoRow : OpenClaim := { program := "ytljdiaokjocfpaa", sum := "0ed82e7d4d286e71973c0dd8e9d8243fdd9965991007c84f02ba0bdec7bd9b5c", func := "remuda/remudalaw18.LeaseNone", spec := "leaseNone", unfollowed := true, recurses := true, apart := false, narrowed := true }
def LeaseNoneUptoSaid : Prop := leaseNoneUptoRow.holds Try.pinned (OpenSpec.upto leaseNoneSpec)

end Rows
end Go.Proofs.Ytljdiaokjocfpaa

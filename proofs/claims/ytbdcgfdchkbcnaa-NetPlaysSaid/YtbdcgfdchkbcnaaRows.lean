/-
  No cell of these rows narrows 'for every input' (looked for: loops, veiled, ifaces, maps, wideKeys, modest, calm, conditions, laid).
  DERIVED. THE GIVEN ROWS OF THIS SEAT. 12 by the template 'for every input the law returns true; each argument reads behind the call as it read before'; 0 by the template 'total and deterministic' (their statements: YtbdcgfdchkbcnaaTotals.lean).
  GIVEN WITH THE SEED: the statements are not yours to turn. If you find one false, say at which input.
  Laid BY PROGRAM, IN A SANDBOX (cutbox-rows.mjs): the forced cells as the released guide's own fill.sh prints them over the translation 425a85d824b3e0cb… (all of the seat's roots in one cut). By AI agents, Wed Nov 11 2026. No macro, syntax, notation, axiom, sorry.
-/
import Derived.Test.YtbdcgfdchkbcnaaChecked
import GoSem.Claim
import GoSem.ClaimJoined
import GoSem.ClaimMapViews
import Derived.JoinedTies
import Derived.KernelRfl
namespace Go.Proofs.Ytbdcgfdchkbcnaa
/- THE CELL 'sum', in the pinned program and in every row, IS THE sha256 OF THE DUMP (.gsa) THAT YtbdcgfdchkbcnaaProg.lean LOADS. Nothing in Lean hashes anything: it is a label: what it is worth is what the hold of that sum in a sandbox is worth. -/
noncomputable def Try.pinned : Pinned := { name := "ytbdcgfdchkbcnaa", sum := "425a85d824b3e0cb1c63ed0073352a506d65344da9cef5ce6300f7ca9a46aeeb", checked := Try.checked }
namespace Rows
def none {H : Type} : Left H := { results := [], args := [] }

/-- 'remudalaw11.NetOrder': WHATEVER THE INPUT: true; the input reads as it did. -/
def netOrderSpec : ChangeSpec := { name := "netOrder", fn := fun _ => fun
  | [d1, d2] => { results := [.lit (.bool true)], args := [d1, d2] }
  | _ => none }
def netOrderRow : OpenClaim := { program := "ytbdcgfdchkbcnaa", sum := "425a85d824b3e0cb1c63ed0073352a506d65344da9cef5ce6300f7ca9a46aeeb", func := "remuda/remudalaw11.NetOrder", spec := "netOrder", plainKeys := false, apart := false }
def NetOrderSaid : Prop := netOrderRow.holds Try.pinned (OpenSpec.ofChange netOrderSpec)

/-- ITS FALSE NEIGHBOUR: 'it returns false'. Refute it at one input. -/
def netOrderWrong : ChangeSpec := { name := "netOrder", fn := fun _ => fun
  | [d1, d2] => { results := [.lit (.bool false)], args := [d1, d2] }
  | _ => none }
def NetOrderWrongFalsely : Prop := netOrderRow.holds Try.pinned (OpenSpec.ofChange netOrderWrong)

/-- 'remudalaw11.NetOnly': WHATEVER THE INPUT: true; the input reads as it did. -/
def netOnlySpec : ChangeSpec := { name := "netOnly", fn := fun _ => fun
  | [d1, d2] => { results := [.lit (.bool true)], args := [d1, d2] }
  | _ => none }
def netOnlyRow : OpenClaim := { program := "ytbdcgfdchkbcnaa", sum := "425a85d824b3e0cb1c63ed0073352a506d65344da9cef5ce6300f7ca9a46aeeb", func := "remuda/remudalaw11.NetOnly", spec := "netOnly", plainKeys := false, apart := false }
def NetOnlySaid : Prop := netOnlyRow.holds Try.pinned (OpenSpec.ofChange netOnlySpec)

/-- ITS FALSE NEIGHBOUR: 'it returns false'. Refute it at one input. -/
def netOnlyWrong : ChangeSpec := { name := "netOnly", fn := fun _ => fun
  | [d1, d2] => { results := [.lit (.bool false)], args := [d1, d2] }
  | _ => none }
def NetOnlyWrongFalsely : Prop := netOnlyRow.holds Try.pinned (OpenSpec.ofChange netOnlyWrong)

/-- 'remudalaw11.NetPlays': WHATEVER THE INPUT: true; the input reads as it did. -/
def netPlaysSpec : ChangeSpec := { name := "netPlays", fn := fun _ => fun
  | [d1, d2] => { results := [.lit (.bool true)], args := [d1, d2] }
  | _ => none }
def netPlaysRow : OpenClaim := { program := "ytbdcgfdchkbcnaa", sum := "425a85d824b3e0cb1c63ed0073352a506d65344da9cef5ce6300f7ca9a46aeeb", func := "remuda/remudalaw11.NetPlays", spec := "netPlays", plainKeys := false, apart := false }
def NetPlaysSaid : Prop := netPlaysRow.holds Try.pinned (OpenSpec.ofChange netPlaysSpec)

/-- ITS FALSE NEIGHBOUR: 'it returns false'. Refute it at one input. -/
def netPlaysWrong : ChangeSpec := { name := "netPlays", fn := fun _ => fun
  | [d1, d2] => { results := [.lit (.bool false)], args := [d1, d2] }
  | _ => none }
def NetPlaysWrongFalsely : Prop := netPlaysRow.holds Try.pinned (OpenSpec.ofChange netPlaysWrong)

/-- 'remudalaw11.NetNone': WHATEVER THE INPUT: true; the input reads as it did. -/
def netNoneSpec : ChangeSpec := { name := "netNone", fn := fun _ => fun
  | [d] => { results := [.lit (.bool true)], args := [d] }
  | _ => none }
def netNoneRow : OpenClaim := { program := "ytbdcgfdchkbcnaa", sum := "425a85d824b3e0cb1c63ed0073352a506d65344da9cef5ce6300f7ca9a46aeeb", func := "remuda/remudalaw11.NetNone", spec := "netNone", plainKeys := false, apart := false }
def NetNoneSaid : Prop := netNoneRow.holds Try.pinned (OpenSpec.ofChange netNoneSpec)

/-- ITS FALSE NEIGHBOUR: 'it returns false'. Refute it at one input. -/
def netNoneWrong : ChangeSpec := { name := "netNone", fn := fun _ => fun
  | [d] => { results := [.lit (.bool false)], args := [d] }
  | _ => none }
def NetNoneWrongFalsely : Prop := netNoneRow.holds Try.pinned (OpenSpec.ofChange netNoneWrong)

/-- 'remudalaw15.SpanBack': WHATEVER THE INPUT: true; the input reads as it did. -/
def spanBackSpec : ChangeSpec := { name := "spanBack", fn := fun _ => fun
  | [d1, d2, d3] => { results := [.lit (.bool true)], args := [d1, d2, d3] }
  | _ => none }
def spanBackRow : OpenClaim := { program := "ytbdcgfdchkbcnaa", sum := "425a85d824b3e0cb1c63ed0073352a506d65344da9cef5ce6300f7ca9a46aeeb", func := "remuda/remudalaw15.SpanBack", spec := "spanBack", unfollowed := true, recurses := true, plainKeys := false, apart := false }
def SpanBackSaid : Prop := spanBackRow.holds Try.pinned (OpenSpec.ofChange spanBackSpec)

/-- ITS FALSE NEIGHBOUR: 'it returns false'. Refute it at one input. -/
def spanBackWrong : ChangeSpec := { name := "spanBack", fn := fun _ => fun
  | [d1, d2, d3] => { results := [.lit (.bool false)], args := [d1, d2, d3] }
  | _ => none }
def SpanBackWrongFalsely : Prop := spanBackRow.holds Try.pinned (OpenSpec.ofChange spanBackWrong)

/-- 'remudalaw15.SpanPaths': WHATEVER THE INPUT: true; the input reads as it did. -/
def spanPathsSpec : ChangeSpec := { name := "spanPaths", fn := fun _ => fun
  | [d1, d2, d3] => { results := [.lit (.bool true)], args := [d1, d2, d3] }
  | _ => none }
def spanPathsRow : OpenClaim := { program := "ytbdcgfdchkbcnaa", sum := "425a85d824b3e0cb1c63ed0073352a506d65344da9cef5ce6300f7ca9a46aeeb", func := "remuda/remudalaw15.SpanPaths", spec := "spanPaths", unfollowed := true, recurses := true, plainKeys := false, apart := false }
def SpanPathsSaid : Prop := spanPathsRow.holds Try.pinned (OpenSpec.ofChange spanPathsSpec)

/-- ITS FALSE NEIGHBOUR: 'it returns false'. Refute it at one input. -/
def spanPathsWrong : ChangeSpec := { name := "spanPaths", fn := fun _ => fun
  | [d1, d2, d3] => { results := [.lit (.bool false)], args := [d1, d2, d3] }
  | _ => none }
def SpanPathsWrongFalsely : Prop := spanPathsRow.holds Try.pinned (OpenSpec.ofChange spanPathsWrong)

/-- 'remudalaw15.SpanTrees': WHATEVER THE INPUT: true; the input reads as it did. -/
def spanTreesSpec : ChangeSpec := { name := "spanTrees", fn := fun _ => fun
  | [d1, d2] => { results := [.lit (.bool true)], args := [d1, d2] }
  | _ => none }
def spanTreesRow : OpenClaim := { program := "ytbdcgfdchkbcnaa", sum := "425a85d824b3e0cb1c63ed0073352a506d65344da9cef5ce6300f7ca9a46aeeb", func := "remuda/remudalaw15.SpanTrees", spec := "spanTrees", unfollowed := true, recurses := true, plainKeys := false, apart := false }
def SpanTreesSaid : Prop := spanTreesRow.holds Try.pinned (OpenSpec.ofChange spanTreesSpec)

/-- ITS FALSE NEIGHBOUR: 'it returns false'. Refute it at one input. -/
def spanTreesWrong : ChangeSpec := { name := "spanTrees", fn := fun _ => fun
  | [d1, d2] => { results := [.lit (.bool false)], args := [d1, d2] }
  | _ => none }
def SpanTreesWrongFalsely : Prop := spanTreesRow.holds Try.pinned (OpenSpec.ofChange spanTreesWrong)

/-- 'remudalaw15.SpanLeads': WHATEVER THE INPUT: true; the input reads as it did. -/
def spanLeadsSpec : ChangeSpec := { name := "spanLeads", fn := fun _ => fun
  | [d1, d2, d3] => { results := [.lit (.bool true)], args := [d1, d2, d3] }
  | _ => none }
def spanLeadsRow : OpenClaim := { program := "ytbdcgfdchkbcnaa", sum := "425a85d824b3e0cb1c63ed0073352a506d65344da9cef5ce6300f7ca9a46aeeb", func := "remuda/remudalaw15.SpanLeads", spec := "spanLeads", unfollowed := true, recurses := true, plainKeys := false, apart := false }
def SpanLeadsSaid : Prop := spanLeadsRow.holds Try.pinned (OpenSpec.ofChange spanLeadsSpec)

/-- ITS FALSE NEIGHBOUR: 'it returns false'. Refute it at one input. -/
def spanLeadsWrong : ChangeSpec := { name := "spanLeads", fn := fun _ => fun
  | [d1, d2, d3] => { results := [.lit (.bool false)], args := [d1, d2, d3] }
  | _ => none }
def SpanLeadsWrongFalsely : Prop := spanLeadsRow.holds Try.pinned (OpenSpec.ofChange spanLeadsWrong)

/-- 'remudalaw17.CacheLast': WHATEVER THE INPUT: true; the input reads as it did. -/
def cacheLastSpec : ChangeSpec := { name := "cacheLast", fn := fun _ => fun
  | [d1, d2] => { results := [.lit (.bool true)], args := [d1, d2] }
  | _ => none }
def cacheLastRow : OpenClaim := { program := "ytbdcgfdchkbcnaa", sum := "425a85d824b3e0cb1c63ed0073352a506d65344da9cef5ce6300f7ca9a46aeeb", func := "remuda/remudalaw17.CacheLast", spec := "cacheLast", unfollowed := true, recurses := true, plainKeys := false, apart := false }
def CacheLastSaid : Prop := cacheLastRow.holds Try.pinned (OpenSpec.ofChange cacheLastSpec)

/-- ITS FALSE NEIGHBOUR: 'it returns false'. Refute it at one input. -/
def cacheLastWrong : ChangeSpec := { name := "cacheLast", fn := fun _ => fun
  | [d1, d2] => { results := [.lit (.bool false)], args := [d1, d2] }
  | _ => none }
def CacheLastWrongFalsely : Prop := cacheLastRow.holds Try.pinned (OpenSpec.ofChange cacheLastWrong)

/-- 'remudalaw17.CacheKeeps': WHATEVER THE INPUT: true; the input reads as it did. -/
def cacheKeepsSpec : ChangeSpec := { name := "cacheKeeps", fn := fun _ => fun
  | [d1, d2] => { results := [.lit (.bool true)], args := [d1, d2] }
  | _ => none }
def cacheKeepsRow : OpenClaim := { program := "ytbdcgfdchkbcnaa", sum := "425a85d824b3e0cb1c63ed0073352a506d65344da9cef5ce6300f7ca9a46aeeb", func := "remuda/remudalaw17.CacheKeeps", spec := "cacheKeeps", unfollowed := true, recurses := true, plainKeys := false, apart := false }
def CacheKeepsSaid : Prop := cacheKeepsRow.holds Try.pinned (OpenSpec.ofChange cacheKeepsSpec)

/-- ITS FALSE NEIGHBOUR: 'it returns false'. Refute it at one input. -/
def cacheKeepsWrong : ChangeSpec := { name := "cacheKeeps", fn := fun _ => fun
  | [d1, d2] => { results := [.lit (.bool false)], args := [d1, d2] }
  | _ => none }
def CacheKeepsWrongFalsely : Prop := cacheKeepsRow.holds Try.pinned (OpenSpec.ofChange cacheKeepsWrong)

/-- 'remudalaw17.CachePlays': WHATEVER THE INPUT: true; the input reads as it did. -/
def cachePlaysSpec : ChangeSpec := { name := "cachePlays", fn := fun _ => fun
  | [d1, d2] => { results := [.lit (.bool true)], args := [d1, d2] }
  | _ => none }
def cachePlaysRow : OpenClaim := { program := "ytbdcgfdchkbcnaa", sum := "425a85d824b3e0cb1c63ed0073352a506d65344da9cef5ce6300f7ca9a46aeeb", func := "remuda/remudalaw17.CachePlays", spec := "cachePlays", unfollowed := true, recurses := true, plainKeys := false, apart := false }
def CachePlaysSaid : Prop := cachePlaysRow.holds Try.pinned (OpenSpec.ofChange cachePlaysSpec)

/-- ITS FALSE NEIGHBOUR: 'it returns false'. Refute it at one input. -/
def cachePlaysWrong : ChangeSpec := { name := "cachePlays", fn := fun _ => fun
  | [d1, d2] => { results := [.lit (.bool false)], args := [d1, d2] }
  | _ => none }
def CachePlaysWrongFalsely : Prop := cachePlaysRow.holds Try.pinned (OpenSpec.ofChange cachePlaysWrong)

/-- 'remudalaw17.CacheNone': WHATEVER THE INPUT: true; the input reads as it did. -/
def cacheNoneSpec : ChangeSpec := { name := "cacheNone", fn := fun _ => fun
  | [d] => { results := [.lit (.bool true)], args := [d] }
  | _ => none }
def cacheNoneRow : OpenClaim := { program := "ytbdcgfdchkbcnaa", sum := "425a85d824b3e0cb1c63ed0073352a506d65344da9cef5ce6300f7ca9a46aeeb", func := "remuda/remudalaw17.CacheNone", spec := "cacheNone", unfollowed := true, recurses := true, plainKeys := false, apart := false }
def CacheNoneSaid : Prop := cacheNoneRow.holds Try.pinned (OpenSpec.ofChange cacheNoneSpec)

/-- ITS FALSE NEIGHBOUR: 'it returns false'. Refute it at one input. -/
def cacheNoneWrong : ChangeSpec := { name := "cacheNone", fn := fun _ => fun
  | [d] => { results := [.lit (.bool false)], args := [d] }
  | _ => none }
def CacheNoneWrongFalsely : Prop := cacheNoneRow.holds Try.pinned (OpenSpec.ofChange cacheNoneWrong)

/- THE SECOND FORM. 'bulk': how many values and letters a reading holds, each counted each time it is reached (what is shared counts as often as it is met; a slice's spare places count too). A statement '..UptoSaid' is the law's where the arguments, and the package variables that the reading takes, are together of bulk at most 1048576: NARROWER than '..Said'. Prove '..Said' where nothing that the law and all that it calls make is longer than what came in: it says more and counts as full. Else prove '..UptoSaid'. A law counts once. -/
mutual
def uptoBulk {H : Type} : DataW H → Nat
  | .lit (.string bytes) => bytes.length + 1
  | .lit _ => 1
  | .nil => 1
  | .ptr d => uptoBulk d + 1
  | .slice elems spare => uptoBulkAll elems + uptoBulkAll spare + 1
  | .agg parts => uptoBulkAll parts + 1
  | .iface _ d => uptoBulk d + 1
  | .map entries => uptoBulkEntries entries + 1
  | .held _ => 1
def uptoBulkAll {H : Type} : List (DataW H) → Nat
  | [] => 0
  | d :: r => uptoBulk d + uptoBulkAll r
def uptoBulkEntries {H : Type} : List (Lit × DataW H) → Nat
  | [] => 0
  | x :: r => uptoBulkEntry x + uptoBulkEntries r
def uptoBulkEntry {H : Type} : Lit × DataW H → Nat
  | (.string bytes, d) => bytes.length + uptoBulk d + 1
  | (_, d) => uptoBulk d + 1
 end
def uptoSmall : (H : Type) → List (DataW H) → Bool := fun _ ds => decide (uptoBulkAll ds ≤ 1048576)
def OpenSpec.upto (s : _root_.Go.ChangeSpec) : _root_.Go.OpenSpec := { _root_.Go.OpenSpec.ofChange s with cond := some uptoSmall }

/-- 'remudalaw11.NetOrder', WHERE WHAT IT READS IS OF BULK AT MOST 1048576: true; the input reads as it did. -/
def netOrderUptoRow : OpenClaim := { program := "ytbdcgfdchkbcnaa", sum := "425a85d824b3e0cb1c63ed0073352a506d65344da9cef5ce6300f7ca9a46aeeb", func := "remuda/remudalaw11.NetOrder", spec := "netOrder", plainKeys := false, apart := false, narrowed := true }
def NetOrderUptoSaid : Prop := netOrderUptoRow.holds Try.pinned (OpenSpec.upto netOrderSpec)

/-- 'remudalaw11.NetOnly', WHERE WHAT IT READS IS OF BULK AT MOST 1048576: true; the input reads as it did. -/
def netOnlyUptoRow : OpenClaim := { program := "ytbdcgfdchkbcnaa", sum := "425a85d824b3e0cb1c63ed0073352a506d65344da9cef5ce6300f7ca9a46aeeb", func := "remuda/remudalaw11.NetOnly", spec := "netOnly", plainKeys := false, apart := false, narrowed := true }
def NetOnlyUptoSaid : Prop := netOnlyUptoRow.holds Try.pinned (OpenSpec.upto netOnlySpec)

/-- 'remudalaw11.NetPlays', WHERE WHAT IT READS IS OF BULK AT MOST 1048576: true; the input reads as it did. -/
def netPlaysUptoRow : OpenClaim := { program := "ytbdcgfdchkbcnaa", sum := "425a85d824b3e0cb1c63ed0073352a506d65344da9cef5ce6300f7ca9a46aeeb", func := "remuda/remudalaw11.NetPlays", spec := "netPlays", plainKeys := false, apart := false, narrowed := true }
def NetPlaysUptoSaid : Prop := netPlaysUptoRow.holds Try.pinned (OpenSpec.upto netPlaysSpec)

/-- 'remudalaw11.NetNone', WHERE WHAT IT READS IS OF BULK AT MOST 1048576: true; the input reads as it did. -/
def netNoneUptoRow : OpenClaim := { program := "ytbdcgfdchkbcnaa", sum := "425a85d824b3e0cb1c63ed0073352a506d65344da9cef5ce6300f7ca9a46aeeb", func := "remuda/remudalaw11.NetNone", spec := "netNone", plainKeys := false, apart := false, narrowed := true }
def NetNoneUptoSaid : Prop := netNoneUptoRow.holds Try.pinned (OpenSpec.upto netNoneSpec)

/-- 'remudalaw15.SpanBack', WHERE WHAT IT READS IS OF BULK AT MOST 1048576: true; the input reads as it did. -/
def spanBackUptoRow : OpenClaim := { program := "ytbdcgfdchkbcnaa", sum := "425a85d824b3e0cb1c63ed0073352a506d65344da9cef5ce6300f7ca9a46aeeb", func := "remuda/remudalaw15.SpanBack", spec := "spanBack", unfollowed := true, recurses := true, plainKeys := false, apart := false, narrowed := true }
def SpanBackUptoSaid : Prop := spanBackUptoRow.holds Try.pinned (OpenSpec.upto spanBackSpec)

/-- 'remudalaw15.SpanPaths', WHERE WHAT IT READS IS OF BULK AT MOST 1048576: true; the input reads as it did. -/
def spanPathsUptoRow : OpenClaim := { program := "ytbdcgfdchkbcnaa", sum := "425a85d824b3e0cb1c63ed0073352a506d65344da9cef5ce6300f7ca9a46aeeb", func := "remuda/remudalaw15.SpanPaths", spec := "spanPaths", unfollowed := true, recurses := true, plainKeys := false, apart := false, narrowed := true }
def SpanPathsUptoSaid : Prop := spanPathsUptoRow.holds Try.pinned (OpenSpec.upto spanPathsSpec)

/-- 'remudalaw15.SpanTrees', WHERE WHAT IT READS IS OF BULK AT MOST 1048576: true; the input reads as it did. -/
def spanTreesUptoRow : OpenClaim := { program := "ytbdcgfdchkbcnaa", sum := "425a85d824b3e0cb1c63ed0073352a506d65344da9cef5ce6300f7ca9a46aeeb", func := "remuda/remudalaw15.SpanTrees", spec := "spanTrees", unfollowed := true, recurses := true, plainKeys := false, apart := false, narrowed := true }
def SpanTreesUptoSaid : Prop := spanTreesUptoRow.holds Try.pinned (OpenSpec.upto spanTreesSpec)

/-- 'remudalaw15.SpanLeads', WHERE WHAT IT READS IS OF BULK AT MOST 1048576: true; the input reads as it did. -/
def spanLeadsUptoRow : OpenClaim := { program := "ytbdcgfdchkbcnaa", sum := "425a85d824b3e0cb1c63ed0073352a506d65344da9cef5ce6300f7ca9a46aeeb", func := "remuda/remudalaw15.SpanLeads", spec := "spanLeads", unfollowed := true, recurses := true, plainKeys := false, apart := false, narrowed := true }
def SpanLeadsUptoSaid : Prop := spanLeadsUptoRow.holds Try.pinned (OpenSpec.upto spanLeadsSpec)

/-- 'remudalaw17.CacheLast', WHERE WHAT IT READS IS OF BULK AT MOST 1048576: true; the input reads as it did. -/
def cacheLastUptoRow : OpenClaim := { program := "ytbdcgfdchkbcnaa", sum := "425a85d824b3e0cb1c63ed0073352a506d65344da9cef5ce6300f7ca9a46aeeb", func := "remuda/remudalaw17.CacheLast", spec := "cacheLast", unfollowed := true, recurses := true, plainKeys := false, apart := false, narrowed := true }
def CacheLastUptoSaid : Prop := cacheLastUptoRow.holds Try.pinned (OpenSpec.upto cacheLastSpec)

/-- 'remudalaw17.CacheKeeps', WHERE WHAT IT READS IS OF BULK AT MOST 1048576: true; the input reads as it did. -/
def cacheKeepsUptoRow : OpenClaim := { program := "ytbdcgfdchkbcnaa", sum := "425a85d824b3e0cb1c63ed0073352a506d65344da9cef5ce6300f7ca9a46aeeb", func := "remuda/remudalaw17.CacheKeeps", spec := "cacheKeeps", unfollowed := true, recurses := true, plainKeys := false, apart := false, narrowed := true }
def CacheKeepsUptoSaid : Prop := cacheKeepsUptoRow.holds Try.pinned (OpenSpec.upto cacheKeepsSpec)

/-- 'remudalaw17.CachePlays', WHERE WHAT IT READS IS OF BULK AT MOST 1048576: true; the input reads as it did. -/
def cachePlaysUptoRow : OpenClaim := { program := "ytbdcgfdchkbcnaa", sum := "425a85d824b3e0cb1c63ed0073352a506d65344da9cef5ce6300f7ca9a46aeeb", func := "remuda/remudalaw17.CachePlays", spec := "cachePlays", unfollowed := true, recurses := true, plainKeys := false, apart := false, narrowed := true }
def CachePlaysUptoSaid : Prop := cachePlaysUptoRow.holds Try.pinned (OpenSpec.upto cachePlaysSpec)

/-- 'remudalaw17.CacheNone', WHERE WHAT IT READS IS OF BULK AT MOST 1048576: true; the input reads as it did. -/
def cacheNoneUptoRow : OpenClaim := { program := "ytbdcgfdchkbcnaa", sum := "425a85d824b3e0cb1c63ed0073352a506d65344da9cef5ce6300f7ca9a46aeeb", func := "remuda/remudalaw17.CacheNone", spec := "cacheNone", unfollowed := true, recurses := true, plainKeys := false, apart := false, narrowed := true }
def CacheNoneUptoSaid : Prop := cacheNoneUptoRow.holds Try.pinned (OpenSpec.upto cacheNoneSpec)

end Rows
end Go.Proofs.Ytbdcgfdchkbcnaa

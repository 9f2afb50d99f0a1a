/- LeaseNone, at its arguments' shape. -/
import Derived.Test.YtljdiaokjocfpaaLsJ
import Derived.Test.YtljdiaokjocfpaaLsH
namespace Go.Proofs.Ytljdiaokjocfpaa.Ls
open Go.RowKit Go.Proofs.Ytljdiaokjocfpaa.L
theorem none_row (w : World) (t : Td) (n : Int) (_ : True) (_ : (Lit.int .i64 n).wf = true) : Calls Try.prog 12 #[.agg (encTd t).toArray, .int .i64 n] w fun e w' => e = .returned (.bool true) ∧ Below w.heap.size w w' := none_walk w t.a t.b t.c n
end Go.Proofs.Ytljdiaokjocfpaa.Ls

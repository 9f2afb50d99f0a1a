/- LeasePlays, at its arguments' shape. -/
import Derived.Test.YtljdiaokjocfpaaLtA
namespace Go.Proofs.Ytljdiaokjocfpaa.Ls
open Go.RowKit Go.Proofs.Ytljdiaokjocfpaa.L Go.Proofs.Ytljdiaokjocfpaa.O
theorem plays_row (w : World) (cells : Int) (s : Sl OpR) (hc : (Lit.int .i64 cells).wf = true) (hs : SlOk w 6 64 encOp (goodOp w) s) :
    Calls Try.prog 11 #[.int .i64 cells, .slice s.A s.n s.c] w fun e w' => e = .returned (.bool true) ∧ Below w.heap.size w w' :=
  plays_walk w cells s.A s.n s.c s.xs (script_of hs)
end Go.Proofs.Ytljdiaokjocfpaa.Ls

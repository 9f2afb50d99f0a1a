/- LeaseAlone, at its arguments' shape. -/
import Derived.Test.YtljdiaokjocfpaaLsV
namespace Go.Proofs.Ytljdiaokjocfpaa.Ls
open Go.RowKit Go.Proofs.Ytljdiaokjocfpaa.L Go.Proofs.Ytljdiaokjocfpaa.O
theorem alone_row (w : World) (c : Int) (s : Sl OpR) (hc : (Lit.int .u8 c).wf = true) (hs : SlOk w 6 64 encOp (goodOp w) s) :
    Calls Try.prog 10 #[.int .u8 c, .slice s.A s.n s.c] w fun e w' => e = .returned (.bool true) ∧ Below w.heap.size w w' := by
  have hw := u8_wf hc
  obtain ⟨k, rfl⟩ : ∃ k : Nat, c = (k : Int) := ⟨c.toNat, by omega⟩
  exact alone_walk w k s.A s.n s.c s.xs (by omega) (script_of hs)
end Go.Proofs.Ytljdiaokjocfpaa.Ls

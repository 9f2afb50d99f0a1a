/- LeaseTimes, at its arguments' shape. -/
import Derived.Test.YtljdiaokjocfpaaLsJ
import Derived.Test.YtljdiaokjocfpaaLsN
namespace Go.Proofs.Ytljdiaokjocfpaa.Ls
open Go.RowKit Go.Proofs.Ytljdiaokjocfpaa.L Go.Proofs.Ytljdiaokjocfpaa.O
theorem times_row (w : World) (c : Int) (s t : Sl Int) (hc : (Lit.int .u8 c).wf = true) (hs : SlOk w 1 1 (fun n : Int => [.int .u8 n]) (fun n => (Lit.int .u8 n).wf = true) s) (ht : SlOk w 1 1 (fun n : Int => [.int .u8 n]) (fun n => (Lit.int .u8 n).wf = true) t) :
    Calls Try.prog 9 #[.int .u8 c, .slice s.A s.n s.c, .slice t.A t.n t.c] w fun e w' => e = .returned (.bool true) ∧ Below w.heap.size w w' := by
  obtain ⟨us, hr1, hb1⟩ := u8s_rd hs
  obtain ⟨ts, hr2, hb2⟩ := u8s_rd ht
  have hw := u8_wf hc
  obtain ⟨k, rfl⟩ : ∃ k : Nat, c = (k : Int) := ⟨c.toNat, by omega⟩
  exact times_walk w k s.A t.A s.n s.c t.n t.c us ts (by omega) hr1 hr2 hb1 hb2
end Go.Proofs.Ytljdiaokjocfpaa.Ls

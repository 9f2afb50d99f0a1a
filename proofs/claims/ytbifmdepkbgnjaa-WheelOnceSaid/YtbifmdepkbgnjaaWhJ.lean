/- wheel: the law WheelOnce: its arguments. -/
import Derived.Test.YtbifmdepkbgnjaaWhI
namespace Go.Proofs.Ytbifmdepkbgnjaa.Wh
open Go.RowKit Go.Proofs.Ytbifmdepkbgnjaa.L Go.Proofs.Ytbifmdepkbgnjaa.O Go.Proofs.Ytbifmdepkbgnjaa.E
theorem once_row (w : World) (s p : Sl Int) (hs : SlOk w 1 1 (fun n : Int => [.int .u8 n]) (fun n => (Lit.int .u8 n).wf = true) s) (hp : SlOk w 1 1 (fun n : Int => [.int .u8 n]) (fun n => (Lit.int .u8 n).wf = true) p) :
    Calls Try.prog 3 #[.slice s.A s.n s.c, .slice p.A p.n p.c] w fun e w' => e = .returned (.bool true) ∧ Below w.heap.size w w' := by
  obtain ⟨l, hr, hl⟩ := u8s_rd hs
  obtain ⟨m, hm, hn⟩ := u8s_rd hp
  exact once_walk w s.A s.n s.c l hr hl p.A p.n p.c m hm hn
end Go.Proofs.Ytbifmdepkbgnjaa.Wh

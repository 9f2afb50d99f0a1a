/- wheel: the law WheelOrder: its arguments. -/
import Derived.Test.YtbifmdepkbgnjaaWhQ
namespace Go.Proofs.Ytbifmdepkbgnjaa.Wh
open Go.RowKit Go.Proofs.Ytbifmdepkbgnjaa.L Go.Proofs.Ytbifmdepkbgnjaa.O Go.Proofs.Ytbifmdepkbgnjaa.E
theorem order_row (w : World) (s : Sl Int) (b : Int) (hs : SlOk w 1 1 (fun n : Int => [.int .u8 n]) (fun n => (Lit.int .u8 n).wf = true) s) (hb : (Lit.int .u8 b).wf = true) :
    Calls Try.prog 4 #[.slice s.A s.n s.c, .int .u8 b] w fun e w' => e = .returned (.bool true) ∧ Below w.heap.size w w' := by
  have h1 := bounds_u8 hb
  obtain ⟨m, rfl⟩ : ∃ k : Nat, b = (k : Int) := ⟨b.toNat, by omega⟩
  obtain ⟨l, hr, hl⟩ := u8s_rd hs
  exact order_walk w s.A s.n s.c l hr hl (by obtain ⟨-, h2, h3, -⟩ := hs; omega) m (by omega)
end Go.Proofs.Ytbifmdepkbgnjaa.Wh

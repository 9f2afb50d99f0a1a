/- wheel: the law WheelNone: its arguments. -/
import Derived.Test.YtbifmdepkbgnjaaWhF
import Derived.Test.YtbifmdepkbgnjaaO
namespace Go.Proofs.Ytbifmdepkbgnjaa.Wh
open Go.RowKit Go.Proofs.Ytbifmdepkbgnjaa.L Go.Proofs.Ytbifmdepkbgnjaa.R Go.Proofs.Ytbifmdepkbgnjaa.A Go.Proofs.Ytbifmdepkbgnjaa.S Go.Proofs.Ytbifmdepkbgnjaa.T Go.Proofs.Ytbifmdepkbgnjaa.C Go.Proofs.Ytbifmdepkbgnjaa.G Go.Proofs.Ytbifmdepkbgnjaa.E Go.Proofs.Ytbifmdepkbgnjaa.F Go.Proofs.Ytbifmdepkbgnjaa.O
set_option linter.unusedVariables false
set_option linter.unusedSimpArgs false

def rng (x : Int) : Prop := -9223372036854775808 ≤ x ∧ x ≤ 9223372036854775807
def encTd (x : Int × Int × Int) : List Value := [.int .i64 x.1, .int .i64 x.2.1, .int .i64 x.2.2]
def goodTd (x : Int × Int × Int) : Prop := rng x.1 ∧ rng x.2.1 ∧ rng x.2.2
def goodK (k : Ky) : Prop := rng k.1 ∧ rng k.2.1 ∧ rng k.2.2.1 ∧ rng k.2.2.2.1 ∧ rng k.2.2.2.2.1 ∧ rng k.2.2.2.2.2
set_option maxRecDepth 100000 in
theorem opens_td (W : World) : Opens Try.prog W 28 encTd goodTd :=
  Opens.as (opens_struct (w := W) Try.underlying28 (by kernel_rfl) (opens_fc (off' := 1) rfl (by kernel_rfl) (opens_int Try.underlying3) (opens_fc (off' := 2) rfl (by kernel_rfl) (opens_int Try.underlying3) (opens_fc (off' := 3) rfl (by kernel_rfl) (opens_int Try.underlying3) (opens_f0 3)))))
    encTd goodTd (fun x => (x.1, x.2.1, x.2.2.1)) (fun _ => rfl) (fun _ h => ⟨i64_range h.1, i64_range h.2.1, i64_range h.2.2.1⟩)
set_option maxRecDepth 100000 in
theorem opens_key (W : World) : Opens Try.prog W 30 encK goodK :=
  Opens.as (opens_struct (w := W) Try.underlying30 (by kernel_rfl) (opens_fc (off' := 1) rfl (by kernel_rfl) (opens_int Try.underlying3) (opens_fc (off' := 2) rfl (by kernel_rfl) (opens_int Try.underlying3) (opens_fc (off' := 3) rfl (by kernel_rfl) (opens_int Try.underlying3) (opens_fc (off' := 6) rfl (by kernel_rfl) (opens_td W) (opens_f0 6))))))
    encK goodK (fun x => (x.1, x.2.1, x.2.2.1, x.2.2.2.1.1, x.2.2.2.1.2.1, x.2.2.2.1.2.2)) (fun _ => rfl) (fun _ h => ⟨i64_range h.1, i64_range h.2.1, i64_range h.2.2.1, h.2.2.2.1.1, h.2.2.2.1.2.1, h.2.2.2.1.2.2⟩)
theorem none_row (w : World) (k : Ky) (n : Int) (hk : goodK k) (hn : (Lit.int .i64 n).wf = true) : Calls Try.prog 6 #[.agg (encK k).toArray, .int .i64 n] w fun e w' => e = .returned (.bool true) ∧ Below w.heap.size w w' := none_walk w k n
end Go.Proofs.Ytbifmdepkbgnjaa.Wh

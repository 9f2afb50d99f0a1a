/- arrow: the law ArrowPlays: its arguments. -/
import Derived.Test.YtmddcmfleipjjaaArN
namespace Go.Proofs.Ytmddcmfleipjjaa.Ar
open Go.RowKit Go.Proofs.Ytmddcmfleipjjaa.L Go.Proofs.Ytmddcmfleipjjaa.A Go.Proofs.Ytmddcmfleipjjaa.R Go.Proofs.Ytmddcmfleipjjaa.T Go.Proofs.Ytmddcmfleipjjaa.F Go.Proofs.Ytmddcmfleipjjaa.S Go.Proofs.Ytmddcmfleipjjaa.Sp Go.Proofs.Ytmddcmfleipjjaa.G Go.Proofs.Ytmddcmfleipjjaa.O Go.Proofs.Ytmddcmfleipjjaa.E
set_option linter.unusedVariables false
set_option linter.unusedSimpArgs false

def encP (x : Int × Int) : List Value := [.int .i64 x.1, .int .i64 x.2]
def goodP (x : Int × Int) : Prop := rng x.1 ∧ rng x.2
def goodO (x : A3) : Prop := rng x.1 ∧ rng x.2.1 ∧ rng x.2.2
set_option maxRecDepth 100000 in
theorem opens_pl (W : World) : Opens Try.prog W 46 encP goodP :=
  Opens.as (opens_struct (w := W) Try.underlying46 (by kernel_rfl) (opens_fc (off' := 1) rfl (by kernel_rfl) (opens_int Try.underlying3) (opens_fc (off' := 2) rfl (by kernel_rfl) (opens_int Try.underlying3) (opens_f0 2))))
    encP goodP (fun x => (x.1, x.2.1)) (fun _ => rfl) (fun _ h => ⟨i64_range h.1, i64_range h.2.1⟩)
set_option maxRecDepth 100000 in
theorem opens_op (W : World) : Opens Try.prog W 56 encA goodO :=
  Opens.as (opens_struct (w := W) Try.underlying56 (by kernel_rfl) (opens_fc (off' := 1) rfl (by kernel_rfl) (opens_int Try.underlying3) (opens_fc (off' := 2) rfl (by kernel_rfl) (opens_int Try.underlying3) (opens_fc (off' := 3) rfl (by kernel_rfl) (opens_int Try.underlying3) (opens_f0 3)))))
    encA goodO (fun x => (x.1, x.2.1, x.2.2.1)) (fun _ => rfl) (fun _ h => ⟨i64_range h.1, i64_range h.2.1, i64_range h.2.2.1⟩)
theorem opens_ops (W : World) : Opens Try.prog W 48 (fun s : Sl A3 => [.slice s.A s.n s.c]) (SlOk W 3 24 encA goodO) :=
  opens_slice Try.underlying48 (by kernel_rfl) (by omega) (by kernel_rfl) (opens_op W)
theorem plays_row (w : World) (x : Int × Int) (s : Sl Int) (p : Sl A3) (hx : goodP x) (hs : SlOk w 1 8 intE intG s) (hp : SlOk w 3 24 encA goodO p) :
    Calls Try.prog 6 #[.agg (encP x).toArray, .slice s.A s.n s.c, .slice p.A p.n p.c] w fun e w' => e = .returned (.bool true) ∧ Below w.heap.size w w' :=
  plays_walk w x.1 x.2 hx.1 hx.2 s.A s.n s.c s.xs (ints_rd hs) (fun y hy => i64_range ((hs.2.2.2.2.2.1 y hy).1)) p.A p.n p.c p.xs (rdE_of hp) (fun o ho => ((hp.2.2.2.2.2.1 o ho).1).2.2)
end Go.Proofs.Ytmddcmfleipjjaa.Ar

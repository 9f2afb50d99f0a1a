/- single operations of a region that are told without looking at the whole frame. -/
import Derived.Test.YtbifmdepkbgnjaaR
namespace Go.Proofs.Ytbifmdepkbgnjaa.R
open Go.RowKit
set_option linter.unusedVariables false
set_option linter.unusedSimpArgs false

section
variable {P : Program} {ops : Array Oper} {o : Oper} {a : Act} {w : World} {K : Act → World → Prop}
theorem runs_assign (hw : Region.wanted o (yielded ops a.tmps) = true) (x : Operand) (ho : o.op = .assign x) (v : Value) (hx : a.eval x = v) (h : K (a.put o.dst v) w) : Runs P ops o a w K :=
  .of_wp hw (by
    unfold Oper.wp execOp
    simp only [ho, hx, Sem.run_pure]
    exact h)
theorem runs_move (hw : Region.wanted o (yielded ops a.tmps) = true) (x : Operand) (ho : o.op = .move x) (v : Value) (hx : a.eval x = v) (h : K (a.put o.dst v) w) : Runs P ops o a w K :=
  .of_wp hw (by
    unfold Oper.wp execOp
    simp only [ho, hx, Sem.run_pure]
    exact h)
theorem runs_extract (hw : Region.wanted o (yielded ops a.tmps) = true) (x : Operand) (i : Nat) (ho : o.op = .extract x i) (vs : Array Value) (v : Value) (hx : a.eval x = .tuple vs) (hv : vs[i]? = some v) (h : K (a.put o.dst v) w) : Runs P ops o a w K :=
  .of_wp hw (by
    unfold Oper.wp execOp
    simp only [ho, hx]
    go_simp
    exact h)
theorem eval_putAll {a0 : Act} {vs : Nat → Value} {l : List (Nat × Tmp)} {t j : Nat} {v : Value} (ht : t < a0.tmps.size) (hm : (j, t) ∈ l) (hu : ∀ k, (k, t) ∈ l → k = j) (hv : vs j = v) : (putAll a0 vs l).eval (.tmp t) = v := by
  have h := putAll_some a0 vs t j ht l hm hu
  simp only [Act.eval, Array.getD_eq_getD_getElem?, h, Option.getD_some, hv]
end
end Go.Proofs.Ytbifmdepkbgnjaa.R

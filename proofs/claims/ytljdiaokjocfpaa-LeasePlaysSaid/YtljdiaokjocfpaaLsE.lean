/- two struct values side by side. -/
import Derived.Test.YtljdiaokjocfpaaProg
import Derived.Test.YtljdiaokjocfpaaL
import Derived.Laws.StructEq
namespace Go.Proofs.Ytljdiaokjocfpaa.Ls
open Go.RowKit Go.Proofs.Ytljdiaokjocfpaa.L
set_option linter.unusedVariables false
set_option linter.unusedSimpArgs false

def tidB (a b c a' b' c' : Int) : Bool := a == a' && (b == b' && c == c')
theorem tid_eq' (d : Nat) (a b c a' b' c' : Int) (w : World) : (Op.equalIn (d + 4) 55 (.agg #[.int .i64 a, .int .i64 b, .int .i64 c]) (.agg #[.int .i64 a', .int .i64 b', .int .i64 c'])).run Try.prog w = .ok (tidB a b c a' b' c') w := by
  have hp : Try.prog.stoodInHeld 55 = false := by kernel_rfl
  have hf : Try.prog.underlying 55 = some (.struct (Try.prog.fieldsOf 55)) := by kernel_rfl
  rw [run_equalIn_agg w _ _ _ _ hf hp]
  clear hf hp
  go_simp
  by_cases h1 : a = a' <;> by_cases h2 : b = b' <;> by_cases h3 : c = c' <;> simp [h1, h2, h3, tidB]
theorem hold_eq' (d : Nat) (a b c u a' b' c' u' : Int) (w : World) : (Op.equalIn (d + 5) 58 (.agg #[.int .i64 a, .int .i64 b, .int .i64 c, .int .i64 u]) (.agg #[.int .i64 a', .int .i64 b', .int .i64 c', .int .i64 u'])).run Try.prog w = .ok (tidB a b c a' b' c' && u == u') w := by
  have hp : Try.prog.stoodInHeld 58 = false := by kernel_rfl
  have hf : Try.prog.underlying 58 = some (.struct (Try.prog.fieldsOf 58)) := by kernel_rfl
  rw [run_equalIn_agg w _ _ _ _ hf hp]
  clear hf hp
  have := tid_eq' d a b c a' b' c'
  go_simp
  cases h1 : tidB a b c a' b' c' <;> by_cases h2 : u = u' <;> simp [h2]
theorem tid_eq (a b c a' b' c' : Int) (w : World) : (Op.equalIn 10000 55 (.agg #[.int .i64 a, .int .i64 b, .int .i64 c]) (.agg #[.int .i64 a', .int .i64 b', .int .i64 c'])).run Try.prog w = .ok (tidB a b c a' b' c') w := tid_eq' 9996 a b c a' b' c' w
theorem hold_eq (a b c u a' b' c' u' : Int) (w : World) : (Op.equalIn 10000 58 (.agg #[.int .i64 a, .int .i64 b, .int .i64 c, .int .i64 u]) (.agg #[.int .i64 a', .int .i64 b', .int .i64 c', .int .i64 u'])).run Try.prog w = .ok (tidB a b c a' b' c' && u == u') w := hold_eq' 9995 a b c u a' b' c' u' w
theorem tid_guard : Try.prog.eqGuardType Try.prog.depth 55 = false := by kernel_rfl
theorem hold_guard : Try.prog.eqGuardType Try.prog.depth 58 = false := by kernel_rfl
end Go.Proofs.Ytljdiaokjocfpaa.Ls

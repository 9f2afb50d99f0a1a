/- what the laws' arguments look like: names of transactions, operations, lists of small numbers. -/
import Derived.Test.YtljdiaokjocfpaaO
namespace Go.Proofs.Ytljdiaokjocfpaa.Ls
open Go.Proofs.Ytljdiaokjocfpaa.O Go.Proofs.Ytljdiaokjocfpaa.L
set_option linter.unusedVariables false
set_option linter.unusedSimpArgs false

structure Td where
  a : Int
  b : Int
  c : Int
def encTd (t : Td) : List Value := [.int .i64 t.a, .int .i64 t.b, .int .i64 t.c]
theorem opens_td (W : World) : Opens Try.prog W 55 encTd fun _ => True :=
  Opens.as (opens_struct (w := W) Try.underlying55 (by kernel_rfl) (opens_fc (off' := 1) rfl (by kernel_rfl) (opens_int Try.underlying3) (opens_fc (off' := 2) rfl (by kernel_rfl) (opens_int Try.underlying3) (opens_fc (off' := 3) rfl (by kernel_rfl) (opens_int Try.underlying3) (opens_f0 3)))))
    encTd (fun _ => True) (fun x => ⟨x.1, x.2.1, x.2.2.1⟩) (fun _ => rfl) (fun _ _ => trivial)
end Go.Proofs.Ytljdiaokjocfpaa.Ls

/- what the laws' arguments look like: names of transactions, operations, lists of small numbers. -/
import Derived.Test.YtljdiaokjocfpaaO
namespace Go.Proofs.Ytljdiaokjocfpaa.Ls
open Go.Proofs.Ytljdiaokjocfpaa.O Go.Proofs.Ytljdiaokjocfpaa.L
set_option linter.unusedVariables false
set_option linter.unusedSimpArgs false

structure Td where
  a : Int
  b : Int
  c : Int
def encTd (t : Td) : List Value := [.int .i64 t.a, .int .i64 t.b, .int .i64 t.c]
theorem opens_td (W : World) : Opens Try.prog W 55 encTd fun _ => True :=
  Opens.as (opens_struct (w := W) Try.underlying55 (by kernel_rfl) (opens_fc (off' := 1) rfl (by kernel_rfl) (opens_int Try.underlying3) (opens_fc (off' := 2) rfl (by kernel_rfl) (opens_int Try.underlying3) (opens_fc (off' := 3) rfl (by kernel_rfl) (opens_int Try.underlying3) (opens_f0 3)))))
    encTd (fun _ => True) (fun x => ⟨x.1, x.2.1, x.2.2.1⟩) (fun _ => rfl) (fun _ _ => trivial)
/-- numbers below 256. -/
theorem opens_u8s (W : World) : Opens Try.prog W 31 (fun s : Sl Int => [.slice s.A s.n s.c]) (SlOk W 1 1 (fun n : Int => [.int .u8 n]) fun n => (Lit.int .u8 n).wf = true) :=
  opens_slice Try.underlying31 (by kernel_rfl) (by omega) (by kernel_rfl) (opens_int Try.underlying5)
theorem u8_wf {n : Int} (h : (Lit.int .u8 n).wf = true) : 0 ≤ n ∧ n < 256 := by
  have := bounds_u8 h
  omega
theorem u8s_rd {W : World} {s : Sl Int} (h : SlOk W 1 1 (fun n : Int => [.int .u8 n]) (fun n => (Lit.int .u8 n).wf = true) s) : ∃ l : List Nat, Rd W s.A s.n (l.map fun x : Nat => Value.int .u8 (x : Int)) ∧ ∀ x ∈ l, x < 256 := by
  obtain ⟨h1, h2, h3, h4, h5, h6, h7⟩ := h
  have hx : ∀ x ∈ s.xs, 0 ≤ x ∧ x < 256 := fun x hx => u8_wf (h6 x hx).1
  have he : s.xs.map (fun x => ((x.toNat : Nat) : Int)) = s.xs := by
    rw [List.map_congr_left (g := id) fun x hm => by have := hx x hm; simp only [id]; omega]
    simp
  refine ⟨s.xs.map Int.toNat, ⟨by simp [h1], by omega, fun h0 => ?_⟩, ?_⟩
  · obtain ⟨b, o, hA, hc⟩ := h7 h0
    refine ⟨b, o, hA, fun j hj => ?_⟩
    have := hc j hj 0 (by omega)
    rw [show j * 1 + 0 = j by omega] at this
    rw [this]
    have hjl : j < s.xs.length := by omega
    have h0' := (hx _ (List.getElem_mem hjl)).1
    simp [List.getElem?_eq_getElem hjl]
    omega
  · intro x hm
    obtain ⟨y, hy, rfl⟩ := List.mem_map.1 hm
    have := hx y hy
    omega
end Go.Proofs.Ytljdiaokjocfpaa.Ls

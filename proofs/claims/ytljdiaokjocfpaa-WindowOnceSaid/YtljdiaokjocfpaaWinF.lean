/- WindowPlays' walk as the row wants it. -/
import Derived.Test.YtljdiaokjocfpaaWinE
import Derived.Test.YtljdiaokjocfpaaO
namespace Go.Proofs.Ytljdiaokjocfpaa.Win
open Go.RowKit Go.Proofs.Ytljdiaokjocfpaa.L Go.Proofs.Ytljdiaokjocfpaa.O
set_option linter.unusedVariables false
set_option linter.unusedSimpArgs false

/-- numbers that came in. -/
def intE : Int → List Value := fun n => [.int .i64 n]
def intG : Int → Prop := fun n => (Lit.int .i64 n).wf = true
theorem opens_ints (W : World) : Opens Try.prog W 35 (fun s : Sl Int => [.slice s.A s.n s.c]) (SlOk W 1 8 intE intG) :=
  opens_slice (e := 3) (by kernel_rfl) (by kernel_rfl) (by decide) (by kernel_rfl) (opens_int (by kernel_rfl))
theorem i64_range {n : Int} (h : (Lit.int .i64 n).wf = true) : -9223372036854775808 ≤ n ∧ n ≤ 9223372036854775807 := by
  simp [Lit.wf, IntKind.min, IntKind.max, IntKind.signed, IntKind.bits] at h
  omega
theorem rd_ints {w : World} {s : Sl Int} (h : SlOk w 1 8 intE intG s) : Rd w s.A s.n (s.xs.map (Value.int .i64)) ∧ (∀ x ∈ s.xs, -9223372036854775808 ≤ x ∧ x ≤ 9223372036854775807) := by
  obtain ⟨h1, h2, h3, h4, h5, h6, h7⟩ := h
  refine ⟨⟨by simp [h1], by omega, fun h0 => ?_⟩, fun x hx => i64_range (h6 x hx).1⟩
  obtain ⟨b, o, e, hc⟩ := h7 h0
  refine ⟨b, o, e, fun j hj => ?_⟩
  have := hc j hj 0 (by omega)
  rw [Nat.mul_one, Nat.add_zero] at this
  rw [this, List.getElem?_map]
  cases hx : s.xs[j]? <;> simp [intE]
theorem plays_walk (w : World) (s t : Sl Int) (clear : Bool) (hs : SlOk w 1 8 intE intG s) (ht : SlOk w 1 8 intE intG t) :
    Calls Try.prog 7 #[.slice s.A s.n s.c, .slice t.A t.n t.c, .bool clear] w fun e w' => e = .returned (.bool true) ∧ Below w.heap.size w w' :=
  plays_any s.A t.A s.n s.c t.n t.c s.xs t.xs clear w (rd_ints hs).1 (rd_ints ht).1 (rd_ints hs).2 (rd_ints ht).2
end Go.Proofs.Ytljdiaokjocfpaa.Win

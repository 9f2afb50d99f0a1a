/- the first place where a test holds (the plain part of lib/XF, for seats without slices of whole numbers in IndexFunc). -/
import Derived.Test.YtbifmdepkbgnjaaProg
import Derived.Test.YtbifmdepkbgnjaaL
import Derived.Test.YtbifmdepkbgnjaaT
namespace Go.Proofs.Ytbifmdepkbgnjaa.F
open Go.RowKit Go.Proofs.Ytbifmdepkbgnjaa.L Go.Proofs.Ytbifmdepkbgnjaa.T
set_option linter.unusedVariables false
set_option linter.unusedSimpArgs false

/-- the first place where p holds; -1: nowhere. -/
def idx {α : Type} (p : α → Bool) : List α → Int
  | [] => -1
  | x :: xs => if p x then 0 else if idx p xs < 0 then -1 else idx p xs + 1
theorem idx_none {α : Type} {p : α → Bool} : ∀ {xs : List α}, (∀ j, (h : j < xs.length) → p xs[j] = false) → idx p xs = -1
  | [], _ => rfl
  | x :: xs, h => by
    have h0 := h 0 (by simp)
    have ih := idx_none (p := p) (xs := xs) fun j hj => h (j + 1) (by simpa using hj)
    simp only [List.getElem_cons_zero] at h0
    simp [idx, h0, ih]
theorem idx_some {α : Type} {p : α → Bool} : ∀ {xs : List α} {k : Nat} (hk : k < xs.length), (∀ j, (h : j < xs.length) → j < k → p xs[j] = false) → p xs[k] = true → idx p xs = k
  | x :: xs, 0, _, _, h => by simp at h; simp [idx, h]
  | x :: xs, k + 1, hk, hn, h => by
    have h0 := hn 0 (by simp) (by omega)
    simp only [List.getElem_cons_zero] at h0
    have ih := idx_some (p := p) (xs := xs) (k := k) (by simpa using hk) (fun j hj hjk => hn (j + 1) (by simpa using hj) (by omega)) (by simpa using h)
    simp [idx, h0, ih]
    omega
theorem idx_any {α : Type} {p : α → Bool} : ∀ {xs : List α}, decide (0 ≤ idx p xs) = xs.any p
  | [] => rfl
  | x :: xs => by
    have ih := idx_any (p := p) (xs := xs)
    cases hx : p x with
    | true => simp [idx, hx]
    | false =>
      simp only [idx, hx, Bool.false_eq_true, if_false, List.any_cons, Bool.false_or, ← ih]
      by_cases h : idx p xs < 0
      · simp [h]
      · have : 0 ≤ idx p xs + 1 := by omega
        simp [h]; omega
def Told (P : Program) (fn : FuncId) (cap : Array Value) (p : Int → Bool) (w0 : World) (xs : List Int) : Prop :=
  ∀ x ∈ xs, ∀ w1, Below w0.heap.size w0 w1 → Calls P fn (#[.int .i64 x] ++ cap) w1 fun e w' => e = .returned (.bool (p x)) ∧ Below w1.heap.size w1 w'
/-- function fn has a body. -/
def Bodied (P : Program) (fn : FuncId) : Prop := ∀ args w, (callFunc fn args).run P w = .ok (.enter fn args) w
end Go.Proofs.Ytbifmdepkbgnjaa.F

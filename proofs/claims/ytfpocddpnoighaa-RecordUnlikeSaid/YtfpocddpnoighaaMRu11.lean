/- slices.IndexFunc and ContainsFunc on whole numbers, by whatever function value whose calls are known (XF without remudaref15.Same). -/
import Derived.Test.YtfpocddpnoighaaProg
import Derived.Test.YtfpocddpnoighaaMRu0
import Derived.Test.YtfpocddpnoighaaMRu4
namespace Go.Proofs.Ytfpocddpnoighaa.F
open Go.RowKit Go.Proofs.Ytfpocddpnoighaa.L Go.Proofs.Ytfpocddpnoighaa.T
set_option linter.unusedVariables false
set_option linter.unusedSimpArgs false

/-- the first place where p holds; -1: nowhere. -/
def idx {α : Type} (p : α → Bool) : List α → Int
  | [] => -1
  | x :: xs => if p x then 0 else if idx p xs < 0 then -1 else idx p xs + 1
theorem idx_none {α : Type} {p : α → Bool} : ∀ {xs : List α}, (∀ j, (h : j < xs.length) → p xs[j] = false) → idx p xs = -1
  | [], _ => rfl
  | x :: xs, h => by
    have h0 := h 0 (by simp)
    have ih := idx_none (p := p) (xs := xs) fun j hj => h (j + 1) (by simpa using hj)
    simp only [List.getElem_cons_zero] at h0
    simp [idx, h0, ih]
theorem idx_some {α : Type} {p : α → Bool} : ∀ {xs : List α} {k : Nat} (hk : k < xs.length), (∀ j, (h : j < xs.length) → j < k → p xs[j] = false) → p xs[k] = true → idx p xs = k
  | x :: xs, 0, _, _, h => by simp at h; simp [idx, h]
  | x :: xs, k + 1, hk, hn, h => by
    have h0 := hn 0 (by simp) (by omega)
    simp only [List.getElem_cons_zero] at h0
    have ih := idx_some (p := p) (xs := xs) (k := k) (by simpa using hk) (fun j hj hjk => hn (j + 1) (by simpa using hj) (by omega)) (by simpa using h)
    simp [idx, h0, ih]
    omega
theorem idx_any {α : Type} {p : α → Bool} : ∀ {xs : List α}, decide (0 ≤ idx p xs) = xs.any p
  | [] => rfl
  | x :: xs => by
    have ih := idx_any (p := p) (xs := xs)
    cases hx : p x with
    | true => simp [idx, hx]
    | false =>
      simp only [idx, hx, Bool.false_eq_true, if_false, List.any_cons, Bool.false_or, ← ih]
      by_cases h : idx p xs < 0
      · simp [h]
      · have : 0 ≤ idx p xs + 1 := by omega
        simp [h]; omega
def Told (P : Program) (fn : FuncId) (cap : Array Value) (p : Int → Bool) (w0 : World) (xs : List Int) : Prop :=
  ∀ x ∈ xs, ∀ w1, Below w0.heap.size w0 w1 → Calls P fn (#[.int .i64 x] ++ cap) w1 fun e w' => e = .returned (.bool (p x)) ∧ Below w1.heap.size w1 w'
/-- function fn has a body. -/
def Bodied (P : Program) (fn : FuncId) : Prop := ∀ args w, (callFunc fn args).run P w = .ok (.enter fn args) w
set_option maxHeartbeats 1000000 in
theorem index_func (fn : FuncId) (cap : Array Value) (p : Int → Bool) (A : Option Addr) (n c : Nat) (xs : List Int) (w : World) (hbd : Bodied Try.prog fn) (hr : Rd w A n (xs.map (Value.int .i64))) (hf : Told Try.prog fn cap p w xs) :
    Calls Try.prog 135 #[.slice A n c, .func (.func fn) #[] cap] w fun e w' => e = .returned (.int .i64 (idx p xs)) ∧ Below w.heap.size w w' := by
  have hln := hr.2.1
  have HR := Lib.hid hr
  have HF := Lib.hid hf
  have hl : xs.length = n := by simpa using hr.len
  have HL := Lib.hid hl
  obtain ⟨r, hres⟩ : ∃ r, Hid (idx p xs = r) := ⟨_, Lib.hid rfl⟩
  rw [hres.out]
  unfold Bodied at hbd
  clear hr hf hl
  go_enter Try.func135, Try.ntmps135
  go_wp2
  go_loopw [8] (fun i wr => ∃ k : Nat, k ≤ n ∧ i = .int .i64 k ∧ Below w.heap.size w wr ∧ Hid (∀ j, (h : j < xs.length) → j < k → p xs[j] = false)) (fun i _ => n - (intOf i).toNat)
  case atStart => exact ⟨0, by omega, rfl, Below.refl _ _, Lib.hid fun j _ h => absurd h (by omega)⟩
  case round =>
    obtain ⟨k, hk, rfl, hb, hnot⟩ := hrel
    by_cases hlt : k < n
    · have hr := HR.out.below hb
      obtain ⟨ab, ao, hA, hc⟩ := hr.2.2 (by omega)
      have hkl : k < xs.length := by have := HL.out; omega
      subst hA
      obtain ⟨z, hz⟩ : ∃ z : Int, Hid (z = xs[k]) := ⟨_, Lib.hid rfl⟩
      have hcell := hc k hlt
      rw [List.getElem?_map, List.getElem?_eq_getElem hkl, ← hz.out] at hcell
      simp only [Option.map_some] at hcell
      have hcall := HF.out z (by rw [hz.out]; exact List.getElem_mem _) _ hb
      have HC := Lib.hid hcall
      clear hc hr hcall
      obtain ⟨q, hq⟩ : ∃ q, Hid (p z = q) := ⟨_, Lib.hid rfl⟩
      rw [hq.out] at HC
      cases q
      · go_wp2_with fail
        refine HC.out.mono ?_
        rintro e w1 ⟨rfl, hb1⟩
        go_wp2
        go_roundw
        case rel => exact ⟨k + 1, by omega, by go_num, below2 hb hb1, Lib.hid fun j hj hjk => by
          by_cases e : j = k
          · subst e; rw [← hz.out]; exact hq.out
          · exact hnot.out j hj (by omega)⟩
        case measure => simp [intOf]; omega
      · go_wp2_with fail
        refine HC.out.mono ?_
        rintro e w1 ⟨rfl, hb1⟩
        go_wp2
        go_ret
        exact ⟨reti (by rw [← hres.out]; exact (idx_some hkl hnot.out (by rw [← hz.out]; exact hq.out)).symm), below2 hb hb1⟩
    · go_wp2
      go_ret
      exact ⟨reti (by rw [← hres.out]; exact (idx_none fun j hj => hnot.out j hj (by have := HL.out; omega)).symm), hb⟩
theorem contains_func (fn : FuncId) (cap : Array Value) (p : Int → Bool) (A : Option Addr) (n c : Nat) (xs : List Int) (w : World) (hbd : Bodied Try.prog fn) (hr : Rd w A n (xs.map (Value.int .i64))) (hf : Told Try.prog fn cap p w xs) :
    Calls Try.prog 129 #[.slice A n c, .func (.func fn) #[] cap] w fun e w' => e = .returned (.bool (xs.any p)) ∧ Below w.heap.size w w' := by
  have HC := Lib.hid (index_func fn cap p A n c xs w hbd hr hf)
  have HX := Lib.hid (idx_any (p := p) (xs := xs))
  obtain ⟨r, hres⟩ : ∃ r, Hid (idx p xs = r) := ⟨_, Lib.hid rfl⟩
  rw [hres.out] at HC HX
  rw [← HX.out]
  clear hr hf hbd
  go_enter Try.func129, Try.ntmps129
  go_wp2_with fail
  refine HC.out.mono ?_
  rintro e w1 ⟨rfl, hb1⟩
  go_wp2
  go_ret
  exact ⟨rfl, hb1⟩
end Go.Proofs.Ytfpocddpnoighaa.F

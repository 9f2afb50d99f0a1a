/- LeasePlays: Of and At side by side. -/
import Derived.Test.YtljdiaokjocfpaaLsZ
namespace Go.Proofs.Ytljdiaokjocfpaa.Ls
open Go.RowKit Go.Proofs.Ytljdiaokjocfpaa.L Go.Proofs.Ytljdiaokjocfpaa.O Go.Proofs.Ytljdiaokjocfpaa.A Go.Proofs.Ytljdiaokjocfpaa.R Go.Proofs.Ytljdiaokjocfpaa.S Go.Proofs.Ytljdiaokjocfpaa.T
set_option linter.unusedVariables false
set_option linter.unusedSimpArgs false

def Off (T : List Slt) (c : Int) : Prop := outB T.length c = true ∨ ∃ (k : Nat) (h : k < T.length), c = k ∧ T[k].on = false
theorem off_or (T : List Slt) (c : Int) : Off T c ∨ ∃ (k : Nat) (h : k < T.length), c = k ∧ T[k].on = true := by
  by_cases ho : outB T.length c = true
  · exact .inl (.inl ho)
  · simp only [outB, Bool.or_eq_true, decide_eq_true_eq] at ho
    obtain ⟨k, rfl⟩ : ∃ k : Nat, c = k := ⟨c.toNat, by omega⟩
    have hk : k < T.length := by omega
    cases hon : T[k].on
    · exact .inl (.inr ⟨k, hk, rfl, hon⟩)
    · exact .inr ⟨k, hk, rfl, hon⟩
theorem off_at {T : List Slt} {c : Int} (h : Off T c) : atD (toD T) c = -1 := by
  rcases h with h | ⟨k, hk, rfl, hs⟩
  · exact at_out T 0 c (by simp [outB] at h; omega)
  · exact at_noD hk hs
theorem st_off {w1 W : World} {bb gg bw ob N : Nat} {T D : List Slt} {x : OpR} (h : St w1 W bb gg bw ob N T D x) (c : Int) (ho : Off T c) :
    Calls Try.prog 31 #[.pointer (some ⟨bb, 0, none⟩), .int .i64 c] W fun e w' => e = .returned (.tuple #[.agg #[.int .i64 0, .int .i64 0, .int .i64 0, .int .i64 0], .bool false]) ∧ Below W.heap.size W w' := by
  rcases ho with ho | ⟨k, hk, rfl, hs⟩
  · exact of_out bb gg T c W h.lt.tab ho
  · refine (of_in bb gg T k W h.lt.tab hk _ rfl).mono ?_
    rintro e w' ⟨he, hb⟩
    refine ⟨?_, hb⟩
    rw [he, hs, holdOf, hs]
    rfl
theorem st_on {w1 W : World} {bb gg bw ob N : Nat} {T D : List Slt} {x : OpR} (h : St w1 W bb gg bw ob N T D x) (k : Nat) (hk : k < T.length) (s : Slt) (hs : T[k] = s) (hon : s.on = true) :
    Calls Try.prog 31 #[.pointer (some ⟨bb, 0, none⟩), .int .i64 k] W fun e w' => e = .returned (.tuple #[.agg #[.int .i64 s.a, .int .i64 s.b, .int .i64 s.c, .int .i64 s.u], .bool true]) ∧ Below W.heap.size W w' := by
  refine (of_in bb gg T k W h.lt.tab hk s hs).mono ?_
  rintro e w' ⟨he, hb⟩
  refine ⟨?_, hb⟩
  rw [he, hon, holdOf, hon]
  rfl
theorem st_at {w1 W : World} {bb gg bw ob N : Nat} {T D : List Slt} {x : OpR} (h : St w1 W bb gg bw ob N T D x) (c r : Int) (hr : atD (toD D) c = r) :
    Calls Try.prog 40 #[.pointer (some ⟨bw, 0, none⟩), .int .i64 c] W fun e w' => e = .returned (.int .i64 r) ∧ W = w' := by
  obtain ⟨A, ca, hd, hA⟩ := h.doc
  exact at_any W bw N A ca _ c hd r hr
theorem st_ask {w1 W : World} {bb gg bw ob N : Nat} {T D : List Slt} {x : OpR} (h : St w1 W bb gg bw ob N T D x) (u c r : Int) (hr : oneE N (toD D) x.a x.b x.c c = r) :
    Calls Try.prog 37 #[.pointer (some ⟨bw, 0, none⟩), .agg #[.int .i64 x.a, .int .i64 x.b, .int .i64 x.c], .int .i64 u, .int .i64 c, .bool false] W fun e w' => e = .returned (.int .i64 r) ∧ St w1 w' bb gg bw ob N T D x := by
  obtain ⟨A, ca, hd, hA⟩ := h.doc
  exact (one_ask W bw N A ca _ x.a x.b x.c u c hd r hr).mono fun e w' ⟨he, hb⟩ => ⟨he, h.below hb⟩
end Go.Proofs.Ytljdiaokjocfpaa.Ls

/- step by step, reckoned. -/
import Derived.Test.YtbdcgfdchkbcnaaSpP
namespace Go.Proofs.Ytbdcgfdchkbcnaa.Sp
open Go.RowKit Go.Proofs.Ytbdcgfdchkbcnaa.L Go.Proofs.Ytbdcgfdchkbcnaa.F
set_option linter.unusedVariables false
set_option linter.unusedSimpArgs false

def leadB (t : Nat) (b : Int) : List Int → Bool
  | [] => false
  | [x] => x == b
  | x :: y :: l => (x != b) && (decide (1 ≤ x) && decide (x ≤ (t : Int))) && (pathF x.toNat b.toNat == x :: y :: l) && (neighL x t).contains y && !(y :: l).contains x && leadB t b (y :: l)
def ldOk (t a b : Nat) (far : Int) : Bool := ((pathF a b).head? == some (a : Int)) && leadB t b (pathF a b) && decide (((pathF a b).length : Int) - 1 ≤ far) && (pathF b b == [(b : Int)])
def allLd : Bool := (List.range 17).all fun t => t == 0 || (fun far => (List.range (t + 1)).all fun a => a == 0 || (List.range (t + 1)).all fun b => b == 0 || ldOk t a b far) (farF t)
set_option maxRecDepth 100000 in
theorem all_ld : allLd = true := by kernel_rfl
theorem ld_ok {t a b : Nat} (ha : 1 ≤ a ∧ a ≤ t) (hb : 1 ≤ b ∧ b ≤ t) (ht : t ≤ 16) : (pathF a b).head? = some (a : Int) ∧ leadB t b (pathF a b) = true ∧ ((pathF a b).length : Int) - 1 ≤ farI t ∧ pathF b b = [(b : Int)] := by
  have h := List.all_eq_true.1 all_ld t (List.mem_range.2 (by omega))
  simp only [Bool.or_eq_true, beq_iff_eq] at h
  rcases h with h | h
  · omega
  have h2 := List.all_eq_true.1 h a (List.mem_range.2 (by omega))
  simp only [Bool.or_eq_true, beq_iff_eq] at h2
  rcases h2 with h2 | h2
  · omega
  have h3 := List.all_eq_true.1 h2 b (List.mem_range.2 (by omega))
  simp only [Bool.or_eq_true, beq_iff_eq] at h3
  rcases h3 with h3 | h3
  · omega
  unfold ldOk at h3
  simp only [Bool.and_eq_true, beq_iff_eq, decide_eq_true_eq] at h3
  rw [far_eq t (by omega) ht]
  exact ⟨h3.1.1.1, h3.1.1.2, h3.1.2, h3.2⟩
theorem lead_cons {t : Nat} {b x y : Int} {l : List Int} (h : leadB t b (x :: y :: l) = true) : x ≠ b ∧ (1 ≤ x ∧ x ≤ t) ∧ pathF x.toNat b.toNat = x :: y :: l ∧ (neighL x t).contains y = true ∧ (y :: l).contains x = false ∧ leadB t b (y :: l) = true := by
  simp only [leadB, Bool.and_eq_true, bne_iff_ne, decide_eq_true_eq, beq_iff_eq, Bool.not_eq_true'] at h
  obtain ⟨⟨⟨⟨⟨h1, h2⟩, h3⟩, h4⟩, h5⟩, h6⟩ := h
  exact ⟨h1, h2, h3, h4, h5, h6⟩
theorem tow_eq {t a b : Nat} (ha : 1 ≤ a ∧ a ≤ t) (hb : 1 ≤ b ∧ b ≤ t) (ht : t ≤ 16) {x y : Int} {l : List Int} (h : pathF a b = x :: y :: l) : towI (a : Int) (b : Int) (t : Int) = y := by
  unfold towI
  rw [path_eq ha hb ht, h]
theorem tow_self {t b : Nat} (hb : 1 ≤ b ∧ b ≤ t) (ht : t ≤ 16) : towI (b : Int) (b : Int) (t : Int) = b := by
  unfold towI
  rw [path_eq hb hb ht, (ld_ok hb hb ht).2.2.2]
theorem any_split {l : List Int} {y : Int} (h : l.contains y = true) : l.any (fun m => m == y) = true := by
  rw [List.any_eq_true]
  exact ⟨y, by simpa using h, by simp⟩
end Go.Proofs.Ytbdcgfdchkbcnaa.Sp

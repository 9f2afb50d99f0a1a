/- the document's paths, reckoned: the search by steps goes along the tree. -/
import Derived.Test.YtmddcmfleipjjaaSpH
namespace Go.Proofs.Ytmddcmfleipjjaa.Sp
open Go.RowKit Go.Proofs.Ytmddcmfleipjjaa.L Go.Proofs.Ytmddcmfleipjjaa.F
set_option linter.unusedVariables false
set_option linter.unusedSimpArgs false

def foldS (f : List Int → Nat → List Int) : List Nat → List Int → List Int
  | [], d => d
  | y :: ys, [] => foldS f ys (f [] y)
  | y :: ys, x :: xs => foldS f ys (f (x :: xs) y)
theorem foldS_eq (f : List Int → Nat → List Int) : ∀ (l : List Nat) (d : List Int), foldS f l d = l.foldl f d
  | [], d => by cases d <;> rfl
  | y :: ys, [] => by rw [foldS, foldS_eq f ys]; rfl
  | y :: ys, x :: xs => by rw [foldS, foldS_eq f ys]; rfl
def ss2 (t : Int) (n k : Nat) (d : List Int) (a : Nat) : List Int := foldS (st1 t k a) (List.range n) d
def ss3 (t : Int) (n : Nat) (d : List Int) (k : Nat) : List Int := foldS (ss2 t n k) (List.range n) d
def stepsS (f t : Nat) : List Int := foldS (ss3 t t) (List.range t) ((List.replicate 17 (-1)).set f 0)
theorem stepsS_eq {f t : Nat} (hf : 1 ≤ f ∧ f ≤ t) (ht : t ≤ 16) : stepsL (f : Int) (t : Int) = stepsS f t := by
  unfold stepsL stepsS
  rw [if_pos (by omega), foldS_eq, Int.toNat_natCast, Int.toNat_natCast]
  have e2 : ∀ k, st2 (t : Int) t k = ss2 (t : Int) t k := fun k => by funext d a; unfold st2 ss2; rw [foldS_eq]
  have e3 : st3 (t : Int) t = ss3 (t : Int) t := by funext d k; unfold st3 ss3; rw [foldS_eq, e2]
  rw [e3]
def hitB (t : Nat) (d : List Int) (a : Int) (m : Nat) : Bool := edgeB a (m : Int) t && (d.getD m 0 == d.getD a.toNat 0 - 1)
def stepOk (t : Nat) (d : List Int) (a y : Int) : Bool := decide (1 ≤ y) && decide (y ≤ (t : Int)) && hitB t d a y.toNat && (List.range y.toNat).all fun m => m == 0 || !hitB t d a m
def chainOk (t : Nat) (d : List Int) (b : Int) : List Int → Bool
  | [] => false
  | [x] => x == b
  | x :: y :: l => (x != b) && stepOk t d x y && chainOk t d b (y :: l)
def pOk (t : Nat) (d : List Int) (a b : Nat) : Bool := ((pathF a b).head? == some (a : Int)) && chainOk t d b (pathF a b) && decide (0 ≤ d.getD a 0)
def fOk (t : Nat) (d : List Int) (a : Nat) (p : List Int) : Bool := d.getD a 0 == (p.length : Int) - 1
def allP : Bool := (List.range 17).all fun t => t == 0 || (List.range (t + 1)).all fun b => b == 0 || (fun d => d.all (fun z => decide (-1 ≤ z) && decide (z ≤ 100)) && (List.range (t + 1)).all fun a => a == 0 || (pOk t d a b && fOk t d a (pathF a b))) (stepsS b t)
set_option maxRecDepth 100000 in
theorem all_p : allP = true := by kernel_rfl
theorem p_ok {t a b : Nat} (ha : 1 ≤ a ∧ a ≤ t) (hb : 1 ≤ b ∧ b ≤ t) (ht : t ≤ 16) : (∀ z ∈ stepsL (b : Int) (t : Int), -1 ≤ z ∧ z ≤ 100) ∧ (pathF a b).head? = some (a : Int) ∧ chainOk t (stepsL (b : Int) (t : Int)) b (pathF a b) = true ∧ 0 ≤ (stepsL (b : Int) (t : Int)).getD a 0 ∧ (stepsL (b : Int) (t : Int)).getD a 0 = ((pathF a b).length : Int) - 1 := by
  have h := List.all_eq_true.1 all_p t (List.mem_range.2 (by omega))
  simp only [Bool.or_eq_true, beq_iff_eq] at h
  rcases h with h | h
  · omega
  have h2 := List.all_eq_true.1 h b (List.mem_range.2 (by omega))
  simp only [Bool.or_eq_true, Bool.and_eq_true, beq_iff_eq] at h2
  rcases h2 with h2 | ⟨hz, h2⟩
  · omega
  have h3 := List.all_eq_true.1 h2 a (List.mem_range.2 (by omega))
  simp only [Bool.or_eq_true, Bool.and_eq_true, beq_iff_eq] at h3
  rcases h3 with h3 | ⟨h3, h4⟩
  · omega
  rw [stepsS_eq hb ht]
  unfold pOk at h3
  unfold fOk at h4
  simp only [Bool.and_eq_true, beq_iff_eq, decide_eq_true_eq] at h3 h4
  refine ⟨fun z hm => ?_, h3.1.1, h3.1.2, h3.2, h4⟩
  have := List.all_eq_true.1 hz z hm
  simpa using this
end Go.Proofs.Ytmddcmfleipjjaa.Sp

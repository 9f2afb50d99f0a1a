/- paths in plain Lean, reckoned where there are sixteen nodes at most. -/
import Derived.Test.YtmddcmfleipjjaaSpC
namespace Go.Proofs.Ytmddcmfleipjjaa.Sp
open Go.RowKit Go.Proofs.Ytmddcmfleipjjaa.L Go.Proofs.Ytmddcmfleipjjaa.F
set_option linter.unusedVariables false
set_option linter.unusedSimpArgs false

def upS : Nat → Nat → List Int
  | 0, _ => []
  | f + 1, n => if n = 0 then [] else (n : Int) :: upS f (n / 2)
theorem upI_eq : ∀ (f k : Nat), k < 2 ^ f → upI (k : Int) = upS f k
  | 0, k, h => by rw [upI_neg (by omega)]; rfl
  | f + 1, k, h => by
    by_cases h0 : k = 0
    · subst h0; rw [upI_neg (by omega)]; rfl
    · rw [upI_pos (by omega)]
      have e : parI (k : Int) = ((k / 2 : Nat) : Int) := by unfold parI; rw [if_neg (by omega)]; omega
      rw [e, upI_eq f (k / 2) (by omega), upS, if_neg h0]
def pathF (a b : Nat) : List Int := pathGo (upS 5 b) [] (upS 5 a)
theorem has_ok {a b t : Nat} (ha : 1 ≤ a ∧ a ≤ t) (hb : 1 ≤ b ∧ b ≤ t) (ht : t ≤ 16) : hasB (t : Int) [(a : Int), (b : Int)] = true := by
  simp [hasB, offB]; omega
theorem path_eq {a b t : Nat} (ha : 1 ≤ a ∧ a ≤ t) (hb : 1 ≤ b ∧ b ≤ t) (ht : t ≤ 16) : pathL (a : Int) (b : Int) (t : Int) = pathF a b := by
  unfold pathL
  rw [if_pos (has_ok ha hb ht), upI_eq 5 a (by omega), upI_eq 5 b (by omega)]
  rfl
def depI (n : Int) : Int := if (upI n).length = 0 then 0 else ((upI n).length : Int) - 1
theorem dep_eq (k : Nat) (h : k < 32) : depI (k : Int) = if (upS 5 k).length = 0 then 0 else ((upS 5 k).length : Int) - 1 := by
  unfold depI; rw [upI_eq 5 k (by omega)]
def towI (a b t : Int) : Int := match pathL a b t with
  | [] => 0
  | [_] => a
  | _ :: y :: _ => y
def most (m x : Int) : Int := if m < x then x else m
def inF (t a : Int) : Nat → Int → Int
  | 0, m => m
  | b + 1, m => most (inF t a b m) (((pathL a ((b : Int) + 1) t).length : Int) - 1)
def outF (t : Int) : Nat → Int
  | 0 => 0
  | a + 1 => inF t ((a : Int) + 1) t.toNat (outF t a)
def farI (t : Int) : Int := if hasB t [t] then outF t t.toNat else 0
def backOk (a b : Nat) : Bool := (pathF b a == (pathF a b).reverse) && decide (1 ≤ (pathF a b).length) && decide (((pathF a b).length : Int) - 1 ≤ (if (upS 5 a).length = 0 then 0 else ((upS 5 a).length : Int) - 1) + (if (upS 5 b).length = 0 then 0 else ((upS 5 b).length : Int) - 1))
def allOk : Bool := (List.range 17).all fun a => a == 0 || (List.range 17).all fun b => b == 0 || backOk a b
theorem all_ok : allOk = true := by kernel_rfl
theorem back_ok {a b : Nat} (ha : 1 ≤ a ∧ a ≤ 16) (hb : 1 ≤ b ∧ b ≤ 16) : backOk a b = true := by
  have h := List.all_eq_true.1 all_ok a (List.mem_range.2 (by omega))
  simp only [Bool.or_eq_true, beq_iff_eq] at h
  rcases h with h | h
  · omega
  · have h2 := List.all_eq_true.1 h b (List.mem_range.2 (by omega))
    simp only [Bool.or_eq_true, beq_iff_eq] at h2
    rcases h2 with h2 | h2
    · omega
    · exact h2
theorem path_back {a b t : Nat} (ha : 1 ≤ a ∧ a ≤ t) (hb : 1 ≤ b ∧ b ≤ t) (ht : t ≤ 16) :
    pathL (b : Int) (a : Int) (t : Int) = (pathL (a : Int) (b : Int) (t : Int)).reverse ∧ 1 ≤ (pathL (a : Int) (b : Int) (t : Int)).length ∧ ((pathL (a : Int) (b : Int) (t : Int)).length : Int) - 1 ≤ depI a + depI b := by
  have h := back_ok (a := a) (b := b) (by omega) (by omega)
  simp only [backOk, Bool.and_eq_true, beq_iff_eq, decide_eq_true_eq] at h
  rw [path_eq ha hb ht, path_eq hb ha ht, dep_eq a (by omega), dep_eq b (by omega)]
  exact ⟨h.1.1, h.1.2, h.2⟩
def farF (t : Nat) : Int := (List.range t).foldl (fun m a => (List.range t).foldl (fun m b => most m (((pathF (a + 1) (b + 1)).length : Int) - 1)) m) 0
theorem in_eq (t a : Nat) (ha : 1 ≤ a ∧ a ≤ t) (ht : t ≤ 16) : ∀ (b : Nat) (m : Int), b ≤ t → inF (t : Int) (a : Int) b m = (List.range b).foldl (fun m b => most m (((pathF a (b + 1)).length : Int) - 1)) m
  | 0, m, _ => rfl
  | b + 1, m, hb => by
    rw [inF, in_eq t a ha ht b m (by omega), List.range_succ, List.foldl_append]
    have := path_eq (a := a) (b := b + 1) (t := t) ha (by omega) ht
    simp only [Int.natCast_add, Int.cast_ofNat_Int] at this
    simp only [List.foldl_cons, List.foldl_nil]
    rw [this]
theorem out_eq (t : Nat) (ht : t ≤ 16) : ∀ a : Nat, a ≤ t → outF (t : Int) a = (List.range a).foldl (fun m a => (List.range t).foldl (fun m b => most m (((pathF (a + 1) (b + 1)).length : Int) - 1)) m) 0
  | 0, _ => rfl
  | a + 1, ha => by
    have h1 := in_eq t (a + 1) (by omega) ht t
    simp only [Int.natCast_add, Int.cast_ofNat_Int] at h1
    rw [outF, out_eq t ht a (by omega), Int.toNat_natCast, h1 _ (Nat.le_refl _)]
    conv => rhs; rw [List.range_succ, List.foldl_append]
    rfl
theorem far_eq (t : Nat) (h1 : 1 ≤ t) (ht : t ≤ 16) : farI (t : Int) = farF t := by
  have h : hasB (t : Int) [(t : Int)] = true := by simp [hasB, offB]; omega
  unfold farI
  rw [if_pos h, Int.toNat_natCast, out_eq t ht t (Nat.le_refl _)]
  rfl
theorem far7 : farI 7 = 4 := (far_eq 7 (by omega) (by omega)).trans (by kernel_rfl)
theorem p437 : pathL 4 3 7 = [4, 2, 1, 3] := (path_eq (a := 4) (b := 3) (t := 7) (by omega) (by omega) (by omega)).trans (by kernel_rfl)
end Go.Proofs.Ytmddcmfleipjjaa.Sp

/- LeasePlays, in plain Lean: what is dropped; Of and At side by side. -/
import Derived.Test.YtljdiaokjocfpaaLsX
namespace Go.Proofs.Ytljdiaokjocfpaa.Ls
open Go.RowKit Go.Proofs.Ytljdiaokjocfpaa.L Go.Proofs.Ytljdiaokjocfpaa.O Go.Proofs.Ytljdiaokjocfpaa.A Go.Proofs.Ytljdiaokjocfpaa.R Go.Proofs.Ytljdiaokjocfpaa.S Go.Proofs.Ytljdiaokjocfpaa.T
set_option linter.unusedVariables false
set_option linter.unusedSimpArgs false

def dropIdx (q : Slt → Bool) : Nat → List Slt → List Nat
  | _, [] => []
  | k, s :: ss => if s.on && q s then k :: dropIdx q (k + 1) ss else dropIdx q (k + 1) ss
theorem dropL_app (q : Slt → Bool) (ss : List Slt) : ∀ (k : Nat) (hk : k ≤ ss.length), dropL q ss ss.length = dropL q ss k ++ dropIdx q k (ss.drop k) := by
  intro k hk
  induction h : ss.length - k generalizing k with
  | zero =>
    have : k = ss.length := by omega
    subst this
    simp [dropIdx]
  | succ n ih =>
    have hlt : k < ss.length := by omega
    rw [ih (k + 1) (by omega) (by omega), List.drop_eq_getElem_cons hlt]
    cases hq : ss[k].on && q ss[k] with
    | true => rw [dropL_yes q ss k hlt hq]; simp [dropIdx, hq]
    | false => rw [dropL_no q ss k hlt hq]; simp [dropIdx, hq]
theorem dropL_idx (q : Slt → Bool) (ss : List Slt) : dropL q ss ss.length = dropIdx q 0 ss := by
  have := dropL_app q ss 0 (by omega)
  simpa [dropL] using this
theorem outs_eq (q : Slt → Bool) (q' : Dh → Bool) (hqq : ∀ k s, q' (dhOf k s) = q s) : ∀ (ss : List Slt) (k : Nat), outsV q' (toDf k ss) = intsV (dropIdx q k ss)
  | [], _ => rfl
  | s :: ss, k => by
    have ih := outs_eq q q' hqq ss (k + 1)
    unfold outsV intsV toI at ih ⊢
    unfold toDf dropIdx
    cases hs : s.on with
    | false => simpa using ih
    | true =>
      cases hq : q s with
      | false => simpa [hqq, hq] using ih
      | true =>
        simp only [if_true, Bool.and_self, List.filter_cons, hqq, hq, List.map_cons, ih]
        rfl
theorem left_eq (q : Slt → Bool) (q' : Dh → Bool) (hqq : ∀ k s, q' (dhOf k s) = q s) : ∀ (ss : List Slt) (k : Nat), leftD q' (toDf k ss) = toDf k (dropS q ss)
  | [], _ => rfl
  | s :: ss, k => by
    have ih := left_eq q q' hqq ss (k + 1)
    unfold leftD dropS at ih ⊢
    simp only [List.map_cons]
    unfold toDf
    cases hs : s.on with
    | false =>
      have : (dropF q s) = s := by simp [dropF, hs]
      rw [this, hs]
      simpa using ih
    | true =>
      cases hq : q s with
      | false =>
        have : (dropF q s) = s := by simp [dropF, hs, hq]
        rw [this, hs]
        simp [hqq, hq, ih]
      | true =>
        have : (dropF q s) = zeroS := by simp [dropF, hs, hq]
        rw [this]
        simp [hqq, hq, ih, zeroS]
theorem outs_D (q : Slt → Bool) (q' : Dh → Bool) (hqq : ∀ k s, q' (dhOf k s) = q s) (T : List Slt) : outsV q' (toD T) = intsV (dropL q T T.length) := by
  rw [dropL_idx]; exact outs_eq q q' hqq T 0
theorem left_D (q : Slt → Bool) (q' : Dh → Bool) (hqq : ∀ k s, q' (dhOf k s) = q s) (T : List Slt) : leftD q' (toD T) = toD (dropS q T) := left_eq q q' hqq T 0
theorem outs_len (q : Slt → Bool) (q' : Dh → Bool) (hqq : ∀ k s, q' (dhOf k s) = q s) (T : List Slt) : ((toD T).filter q').length = (dropL q T T.length).length := by
  have := congrArg List.length (outs_D q q' hqq T)
  simpa [outsV, intsV, toI] using this
/-- may it? -/
theorem may_eq (T : List Slt) (a b c : Int) (xs : List Int) : mayV T a b c xs = xs.all fun x => oneE T.length (toD T) a b c x == 0 := by
  simp only [one_ask_T]
  unfold mayV
  induction xs with
  | nil => rfl
  | cons x xs ih =>
    simp only [List.any_cons, List.all_cons, ← ih]
    cases h1 : outB T.length x <;> cases h2 : notP T a b c x <;> simp
end Go.Proofs.Ytljdiaokjocfpaa.Ls

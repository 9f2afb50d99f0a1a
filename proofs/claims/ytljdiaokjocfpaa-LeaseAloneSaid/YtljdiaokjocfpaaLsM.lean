/- LeaseTimes, in plain Lean: what is held, and what goes. -/
import Derived.Test.YtljdiaokjocfpaaLsH
namespace Go.Proofs.Ytljdiaokjocfpaa.Ls
open Go.RowKit Go.Proofs.Ytljdiaokjocfpaa.L Go.Proofs.Ytljdiaokjocfpaa.T
set_option linter.unusedVariables false
set_option linter.unusedSimpArgs false

def slotT (us : List Nat) (i : Nat) : Slt := ⟨0, 0, (i : Int) + 1, ((us.getD i 0 : Nat) : Int), true⟩
def initT (us : List Nat) (n k : Nat) : List Slt := (List.range n).map fun i => if i < k then slotT us i else zeroS
theorem initT_len (us : List Nat) (n k : Nat) : (initT us n k).length = n := by simp [initT]
theorem initT_at (us : List Nat) (n k i : Nat) (h : i < n) : (initT us n k)[i]'(by rw [initT_len]; exact h) = if i < k then slotT us i else zeroS := by simp [initT]
theorem initT_zero (us : List Nat) (n : Nat) : initT us n 0 = List.replicate n zeroS := by
  apply List.ext_getElem
  · simp [initT]
  · intro i h1 h2; simp [initT]
theorem initT_over (us : List Nat) (n k : Nat) (h : n ≤ k) : initT us n (k + 1) = initT us n k := by
  apply List.ext_getElem
  · simp [initT]
  · intro i h1 h2
    have : i < n := by simpa [initT] using h1
    rw [initT_at _ _ _ _ this, initT_at _ _ _ _ this, if_pos (by omega), if_pos (by omega)]
theorem getS_at {ss : List Slt} {k : Nat} (h : k < ss.length) : getS ss (k : Int) = ss[k] := by simp [getS, h]
theorem initT_hold (us : List Nat) (n k : Nat) (h : k < n) : holdE (initT us n k) 0 0 ((k : Int) + 1) [(k : Int)] = 0 ∧ holdS (initT us n k) 0 0 ((k : Int) + 1) ((us.getD k 0 : Nat) : Int) [(k : Int)] = initT us n (k + 1) := by
  have hg : getS (initT us n k) (k : Int) = zeroS := by rw [getS_at (by rw [initT_len]; exact h), initT_at _ _ _ _ h, if_neg (by omega)]
  have ho : outB (initT us n k).length (k : Int) = false := by rw [initT_len]; simp [outB]; omega
  have hE : holdE (initT us n k) 0 0 ((k : Int) + 1) [(k : Int)] = 0 := by
    simp only [holdE, mayV, List.any_cons, List.any_nil, ho, notP, hg, zeroS, Bool.or_false, Bool.false_and, Bool.false_eq_true, if_false, Bool.not_false, Bool.and_self, if_true]
  refine ⟨hE, ?_⟩
  simp only [holdS, hE, if_true, List.foldl_cons, List.foldl_nil, hold1, hg, Int.toNat_natCast]
  apply List.ext_getElem
  · simp [initT]
  · intro i h1 h2
    have hi : i < n := by simpa [initT] using h1
    rw [List.getElem_set]
    by_cases e : k = i
    · subst e
      rw [if_pos rfl, initT_at _ _ _ _ hi, if_pos (show k < k + 1 by omega)]
      simp [slotT, zeroS]
    · rw [if_neg e, initT_at _ _ _ _ hi, initT_at _ _ _ _ hi]
      by_cases h : i < k
      · rw [if_pos h, if_pos (by omega)]
      · rw [if_neg h, if_neg (by omega)]
/-- what a table may hold at some time. -/
def AtTime (us : List Nat) (n now : Nat) (T : List Slt) : Prop :=
  T.length = n ∧ ∀ i, (h : i < T.length) → (T[i] = zeroS ∨ (i < us.length ∧ T[i] = slotT us i)) ∧ (i < us.length → now < us.getD i 0 → T[i] = slotT us i)
def atT (us : List Nat) (n now : Nat) : List Slt := (List.range n).map fun i => if i < us.length ∧ now < us.getD i 0 then slotT us i else zeroS
theorem atT_len (us : List Nat) (n now : Nat) : (atT us n now).length = n := by simp [atT]
theorem atT_at (us : List Nat) (n now i : Nat) (h : i < n) : (atT us n now)[i]'(by rw [atT_len]; exact h) = if i < us.length ∧ now < us.getD i 0 then slotT us i else zeroS := by simp [atT]
theorem init_time (us : List Nat) (n : Nat) : AtTime us n 0 (initT us n us.length) := by
  refine ⟨initT_len _ _ _, fun i h => ?_⟩
  have hi : i < n := by simpa [initT] using h
  rw [initT_at _ _ _ _ hi]
  by_cases hl : i < us.length
  · rw [if_pos hl]; exact ⟨.inr ⟨hl, rfl⟩, fun _ _ => rfl⟩
  · rw [if_neg hl]; exact ⟨.inl rfl, fun h => absurd h hl⟩
theorem atT_time (us : List Nat) (n now : Nat) : AtTime us n now (atT us n now) := by
  refine ⟨atT_len _ _ _, fun i h => ?_⟩
  have hi : i < n := by simpa [atT] using h
  rw [atT_at _ _ _ _ hi]
  by_cases hl : i < us.length ∧ now < us.getD i 0
  · rw [if_pos hl]; exact ⟨.inr ⟨hl.1, rfl⟩, fun _ _ => rfl⟩
  · rw [if_neg hl]; exact ⟨.inl rfl, fun h1 h2 => absurd ⟨h1, h2⟩ hl⟩
theorem AtTime.drop {us : List Nat} {n now : Nat} {T : List Slt} (h : AtTime us n now T) (s : Nat) : dropS (fun x => decide (x.u ≤ ((now + s : Nat) : Int))) T = atT us n (now + s) := by
  apply List.ext_getElem
  · simp [dropS, atT, h.1]
  · intro i h1 h2
    have hi : i < n := by simpa [atT] using h2
    have hT : i < T.length := by rw [h.1]; exact hi
    rw [atT_at _ _ _ _ hi]
    simp only [dropS, List.getElem_map]
    obtain ⟨ha, hb⟩ := h.2 i hT
    by_cases hl : i < us.length ∧ now + s < us.getD i 0
    · rw [if_pos hl, hb hl.1 (by omega)]
      unfold dropF slotT
      rw [if_neg]
      simp only [Bool.true_and, decide_eq_true_eq]
      omega
    · rw [if_neg hl]
      rcases ha with ha | ⟨ha1, ha2⟩
      · rw [ha]; rfl
      · rw [ha2]
        unfold dropF slotT
        rw [if_pos]
        simp only [Bool.true_and, decide_eq_true_eq]
        have := fun h => hl ⟨ha1, h⟩
        omega
theorem AtTime.gone {us : List Nat} {n now : Nat} {T : List Slt} (h : AtTime us n now T) (q : Int) : ∀ c ∈ dropL (fun x => decide (x.u ≤ q)) T T.length, c < n ∧ c < us.length ∧ ((us.getD c 0 : Nat) : Int) ≤ q := by
  intro c hc
  unfold dropL at hc
  rw [List.mem_filter, List.mem_range] at hc
  obtain ⟨hl, hp⟩ := hc
  rw [List.getD_eq_getElem?_getD, List.getElem?_eq_getElem hl, Option.getD_some] at hp
  simp only [Bool.and_eq_true, decide_eq_true_eq] at hp
  rcases (h.2 c hl).1 with ha | ⟨ha1, ha2⟩
  · rw [ha] at hp; exact absurd hp.1 (by decide)
  · rw [ha2] at hp
    exact ⟨by rw [← h.1]; exact hl, ha1, hp.2⟩
end Go.Proofs.Ytljdiaokjocfpaa.Ls

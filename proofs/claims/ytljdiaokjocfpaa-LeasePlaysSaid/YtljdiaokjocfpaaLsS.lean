/- LeasePlays, in plain Lean: the document's holds are the slots that are on. -/
import Derived.Test.YtljdiaokjocfpaaLsR
import Derived.Test.YtljdiaokjocfpaaLsU
namespace Go.Proofs.Ytljdiaokjocfpaa.Ls
open Go.RowKit Go.Proofs.Ytljdiaokjocfpaa.L Go.Proofs.Ytljdiaokjocfpaa.O Go.Proofs.Ytljdiaokjocfpaa.A Go.Proofs.Ytljdiaokjocfpaa.R Go.Proofs.Ytljdiaokjocfpaa.S Go.Proofs.Ytljdiaokjocfpaa.T
set_option linter.unusedVariables false
set_option linter.unusedSimpArgs false

def dhOf (k : Nat) (s : Slt) : Dh := ⟨(k : Int), s.a, s.b, s.c, s.u⟩
def toDf : Nat → List Slt → List Dh
  | _, [] => []
  | k, s :: ss => if s.on then dhOf k s :: toDf (k + 1) ss else toDf (k + 1) ss
def toD (T : List Slt) : List Dh := toDf 0 T
theorem toDf_len : ∀ (T : List Slt) (k : Nat), (toDf k T).length = heldN T
  | [], _ => rfl
  | s :: ss, k => by
    have ih := toDf_len ss (k + 1)
    unfold toDf heldN
    cases h : s.on <;> simp [h, ih, heldN]
theorem heldN_le (T : List Slt) : heldN T ≤ T.length := List.length_filter_le _ _
theorem toDf_ge : ∀ (T : List Slt) (k : Nat), ∀ d ∈ toDf k T, (k : Int) ≤ d.cell
  | [], _, _, h => by cases h
  | s :: ss, k, d, h => by
    have ih := toDf_ge ss (k + 1)
    unfold toDf at h
    cases hs : s.on with
    | false => simp only [hs, Bool.false_eq_true, if_false] at h; have := ih d h; omega
    | true =>
      simp only [hs, if_true, List.mem_cons] at h
      rcases h with rfl | h
      · exact Int.le_refl _
      · have := ih d h; omega
theorem toDf_lt : ∀ (T : List Slt) (k : Nat), ∀ d ∈ toDf k T, d.cell < ((k + T.length : Nat) : Int)
  | [], _, _, h => by cases h
  | s :: ss, k, d, h => by
    have ih := toDf_lt ss (k + 1)
    unfold toDf at h
    cases hs : s.on with
    | false => simp only [hs, Bool.false_eq_true, if_false] at h; have := ih d h; simp only [List.length_cons]; omega
    | true =>
      simp only [hs, if_true, List.mem_cons] at h
      rcases h with rfl | h
      · simp only [dhOf, List.length_cons]; omega
      · have := ih d h; simp only [List.length_cons]; omega
theorem idx_mem {α : Type} {p : α → Bool} {xs : List α} (h : ∀ x ∈ xs, p x = false) : idx p xs = -1 := idx_none fun j hj => h _ (List.getElem_mem hj)
theorem at_out (T : List Slt) (k : Nat) (c : Int) (h : c < k ∨ ((k + T.length : Nat) : Int) ≤ c) : atD (toDf k T) c = -1 := by
  refine idx_mem fun d hd => ?_
  have h1 := toDf_ge T k d hd
  have h2 := toDf_lt T k d hd
  simp only [isC, beq_eq_false_iff_ne]
  omega
theorem heldN_cons (s : Slt) (ss : List Slt) : heldN (s :: ss) = (if s.on then 1 else 0) + heldN ss := by
  unfold heldN
  cases h : s.on <;> simp [h]; omega
theorem at_no : ∀ (T : List Slt) (k i : Nat) (hi : i < T.length), T[i].on = false → atD (toDf k T) ((k + i : Nat) : Int) = -1
  | s :: ss, k, 0, _, h => by
    simp only [List.getElem_cons_zero] at h
    simp only [toDf, h, Bool.false_eq_true, if_false, Nat.add_zero]
    exact at_out ss (k + 1) k (.inl (by omega))
  | s :: ss, k, i + 1, hi, h => by
    have ih := at_no ss (k + 1) i (by simpa using hi) (by simpa using h)
    rw [show k + 1 + i = k + (i + 1) by omega] at ih
    cases hs : s.on with
    | false => simp only [toDf, hs, Bool.false_eq_true, if_false]; exact ih
    | true =>
      simp only [toDf, hs, if_true]
      unfold atD at ih ⊢
      have : isC ((k + (i + 1) : Nat) : Int) (dhOf k s) = false := by simp only [isC, dhOf, beq_eq_false_iff_ne]; omega
      simp only [idx, this, Bool.false_eq_true, if_false, ih]
      rfl
theorem at_on : ∀ (T : List Slt) (k i : Nat) (hi : i < T.length), T[i].on = true → atD (toDf k T) ((k + i : Nat) : Int) = (heldN (T.take i) : Nat) ∧ (toDf k T)[heldN (T.take i)]? = some (dhOf (k + i) T[i])
  | s :: ss, k, 0, _, h => by
    simp only [List.getElem_cons_zero] at h
    simp only [toDf, h, if_true, Nat.add_zero, List.take_zero, List.getElem_cons_zero]
    refine ⟨?_, rfl⟩
    have : isC (k : Int) (dhOf k s) = true := by simp [isC, dhOf]
    simp [atD, idx, this, heldN]
  | s :: ss, k, i + 1, hi, h => by
    have ih := at_on ss (k + 1) i (by simpa using hi) (by simpa using h)
    rw [show k + 1 + i = k + (i + 1) by omega] at ih
    cases hs : s.on with
    | false =>
      simp only [toDf, hs, Bool.false_eq_true, if_false, List.take_succ_cons, heldN_cons, Nat.zero_add, List.getElem_cons_succ]
      exact ih
    | true =>
      simp only [toDf, hs, if_true, List.take_succ_cons, heldN_cons, List.getElem_cons_succ]
      refine ⟨?_, ?_⟩
      · have h1 := ih.1
        unfold atD at h1 ⊢
        have : isC ((k + (i + 1) : Nat) : Int) (dhOf k s) = false := by simp only [isC, dhOf, beq_eq_false_iff_ne]; omega
        simp only [idx, this, Bool.false_eq_true, if_false, h1]
        rw [if_neg (by omega)]
        omega
      · rw [Nat.add_comm 1, List.getElem?_cons_succ]
        exact ih.2
theorem set_on : ∀ (T : List Slt) (k i : Nat) (hi : i < T.length) (s' : Slt), T[i].on = true → s'.on = true → (toDf k T).set (heldN (T.take i)) (dhOf (k + i) s') = toDf k (T.set i s')
  | s :: ss, k, 0, _, s', h, h' => by
    simp only [List.getElem_cons_zero] at h
    simp [toDf, h, h', heldN]
  | s :: ss, k, i + 1, hi, s', h, h' => by
    have ih := set_on ss (k + 1) i (by simpa using hi) s' (by simpa using h) h'
    rw [show k + 1 + i = k + (i + 1) by omega] at ih
    cases hs : s.on with
    | false => simpa [toDf, hs, heldN_cons] using ih
    | true =>
      simp only [toDf, hs, if_true, List.take_succ_cons, heldN_cons, List.set_cons_succ]
      rw [Nat.add_comm 1, List.set_cons_succ, ih]
theorem pre_off (T : List Slt) (k : Nat) : pre (toDf (k + 1) T) (k : Int) = 0 := by
  unfold pre
  cases h : toDf (k + 1) T with
  | nil => rfl
  | cons d ds =>
    have := toDf_ge T (k + 1) d (by rw [h]; simp)
    rw [List.takeWhile_cons_of_neg (by simp; omega)]
    rfl
theorem ins_off : ∀ (T : List Slt) (k i : Nat) (hi : i < T.length) (s' : Slt), T[i].on = false → s'.on = true → (toDf k T).take (pre (toDf k T) ((k + i : Nat) : Int)) ++ [dhOf (k + i) s'] ++ (toDf k T).drop (pre (toDf k T) ((k + i : Nat) : Int)) = toDf k (T.set i s')
  | s :: ss, k, 0, _, s', h, h' => by
    simp only [List.getElem_cons_zero] at h
    simp only [toDf, h, Bool.false_eq_true, if_false, Nat.add_zero, pre_off, List.take_zero, List.drop_zero, List.nil_append, List.set_cons_zero, h', if_true]
    rfl
  | s :: ss, k, i + 1, hi, s', h, h' => by
    have ih := ins_off ss (k + 1) i (by simpa using hi) s' (by simpa using h) h'
    rw [show k + 1 + i = k + (i + 1) by omega] at ih
    cases hs : s.on with
    | false => simpa [toDf, hs] using ih
    | true =>
      have hp : pre (dhOf k s :: toDf (k + 1) ss) ((k + (i + 1) : Nat) : Int) = pre (toDf (k + 1) ss) ((k + (i + 1) : Nat) : Int) + 1 := by
        unfold pre
        rw [List.takeWhile_cons_of_pos (by show decide ((k : Int) < ((k + (i + 1) : Nat) : Int)) = true; rw [decide_eq_true_eq]; omega)]
        rfl
      simp only [toDf, hs, if_true, List.set_cons_succ, hp, List.take_succ_cons, List.drop_succ_cons, List.cons_append, ih]
theorem at_noD {T : List Slt} {k : Nat} (hk : k < T.length) (hs : T[k].on = false) : atD (toD T) (k : Int) = -1 := by
  have h := at_no T 0 k hk hs
  rw [show 0 + k = k by omega] at h
  exact h
theorem at_onD {T : List Slt} {k : Nat} (hk : k < T.length) (hs : T[k].on = true) : atD (toD T) (k : Int) = (heldN (T.take k) : Nat) ∧ (toD T)[heldN (T.take k)]? = some (dhOf k T[k]) ∧ getH (toD T) ((heldN (T.take k) : Nat) : Int) = dhOf k T[k] := by
  obtain ⟨h1, h2⟩ := at_on T 0 k hk hs
  rw [show 0 + k = k by omega] at h1 h2
  refine ⟨h1, h2, ?_⟩
  simp only [getH, Int.toNat_natCast, List.getD_eq_getElem?_getD]
  show ((toDf 0 T)[heldN (T.take k)]?).getD _ = _
  rw [h2]
  rfl
theorem set_onD {T : List Slt} {k : Nat} (hk : k < T.length) (s' : Slt) (hs : T[k].on = true) (hs' : s'.on = true) : (toD T).set (heldN (T.take k)) (dhOf k s') = toD (T.set k s') := by
  have h := set_on T 0 k hk s' hs hs'
  rw [show 0 + k = k by omega] at h
  exact h
theorem ins_offD {T : List Slt} {k : Nat} (hk : k < T.length) (s' : Slt) (hs : T[k].on = false) (hs' : s'.on = true) : (toD T).take (pre (toD T) (k : Int)) ++ [dhOf k s'] ++ (toD T).drop (pre (toD T) (k : Int)) = toD (T.set k s') := by
  have h := ins_off T 0 k hk s' hs hs'
  rw [show 0 + k = k by omega] at h
  exact h
theorem getS_on {T : List Slt} {k : Nat} (hk : k < T.length) : getS T (k : Int) = T[k] := by simp [getS, hk]
theorem one_ask_T (T : List Slt) (a b c x : Int) : oneE T.length (toD T) a b c x = if outB T.length x then 1 else if notP T a b c x then 12 else 0 := by
  unfold oneE
  cases ho : outB T.length x with
  | true => rfl
  | false =>
    obtain ⟨k, rfl, hk⟩ := out_false ho
    simp only [Bool.false_eq_true, if_false]
    have hq : foe (toD T) a b c (k : Int) = notP T a b c (k : Int) := by
      unfold foe notP
      rw [getS_on hk]
      cases hs : T[k].on with
      | false => simp [at_noD hk hs]
      | true =>
        obtain ⟨h1, _, hg⟩ := at_onD hk hs
        simp only [h1, hg]
        simp [dhOf]
    rw [hq]
theorem one_do_T (T : List Slt) (a b c u x : Int) (ho : outB T.length x = false) (hn : notP T a b c x = false) : oneS (toD T) a b c u x = toD (hold1 a b c u T x) := by
  obtain ⟨k, rfl, hk⟩ := out_false ho
  unfold notP at hn
  unfold oneS hold1
  rw [getS_on hk] at hn ⊢
  rw [Int.toNat_natCast]
  cases hs : T[k].on with
  | false =>
    have h1 := at_noD hk hs
    have h2 := ins_offD hk ⟨a, b, c, u, true⟩ hs rfl
    simp only [h1, Bool.false_eq_true, if_false]
    rw [if_neg (by omega)]
    exact h2
  | true =>
    obtain ⟨h1, _, hg⟩ := at_onD hk hs
    simp only [hs, Bool.true_and, Bool.not_eq_false'] at hn
    obtain ⟨e1, e2, e3⟩ := tidB_iff.1 hn
    simp only [h1, hg, if_true, Int.toNat_natCast]
    rw [if_pos (by omega)]
    by_cases hu : (dhOf k T[k]).u < u
    · rw [if_pos hu]
      have h3 := set_onD hk ⟨a, b, c, max u T[k].u, true⟩ hs rfl
      rw [← h3]
      congr 1
      simp only [dhOf] at hu ⊢
      rw [e1, e2, e3, Int.max_eq_left (by omega)]
    · rw [if_neg hu]
      simp only [dhOf] at hu
      have : (⟨a, b, c, max u T[k].u, true⟩ : Slt) = T[k] := by
        rw [Int.max_eq_right (by omega)]
        cases hT : T[k] with
        | mk ta tb tc tu on =>
          rw [hT] at e1 e2 e3 hs
          simp only at e1 e2 e3 hs
          subst e1; subst e2; subst e3; subst hs; rfl
      rw [this, List.set_getElem_self]
theorem notP_step (T : List Slt) (a b c u x y : Int) (hx : outB T.length x = false) (hy : notP T a b c y = false) (hyo : outB T.length y = false) : notP (hold1 a b c u T x) a b c y = false := by
  obtain ⟨k, rfl, hk⟩ := out_false hx
  obtain ⟨j, rfl, hj⟩ := out_false hyo
  unfold notP at hy ⊢
  rw [getS_on (by simp [hold1]; exact hj)]
  rw [getS_on hj] at hy
  simp only [hold1, Int.toNat_natCast, List.getElem_set]
  by_cases e : k = j
  · rw [if_pos e]; simp [tidB]
  · rw [if_neg e]; exact hy
def worst (f : Int → Int) : List Int → Int → Int
  | [], w => w
  | x :: xs, w => worst f xs (if f x = 1 ∨ w = 0 then f x else w)
theorem worst_app (f : Int → Int) : ∀ (xs : List Int) (x w : Int), worst f (xs ++ [x]) w = (if f x = 1 ∨ worst f xs w = 0 then f x else worst f xs w)
  | [], _, _ => rfl
  | y :: ys, x, w => by simp only [List.cons_append, worst]; exact worst_app f ys x _
theorem worst_T (T : List Slt) (a b c : Int) (xs : List Int) : worst (oneE T.length (toD T) a b c) xs 0 = holdE T a b c xs := by
  have key : ∀ (xs : List Int) (w : Int), (w = 0 ∨ w = 1 ∨ w = 12) → worst (oneE T.length (toD T) a b c) xs w = if w = 1 ∨ xs.any (outB T.length) = true then 1 else if w = 12 ∨ xs.any (notP T a b c) = true then 12 else 0 := by
    intro xs
    induction xs with
    | nil => intro w hw; simp [worst]; rcases hw with rfl | rfl | rfl <;> decide
    | cons x xs ih =>
      intro w hw
      unfold worst
      rw [one_ask_T]
      cases ho : outB T.length x with
      | true =>
        simp only [if_true, true_or]
        rw [ih 1 (by omega)]
        simp [ho]
      | false =>
        cases hn : notP T a b c x with
        | true =>
          simp only [Bool.false_eq_true, if_false, if_true]
          rcases hw with rfl | rfl | rfl
          · rw [ih _ (by simp)]; simp [ho, hn]
          · rw [ih _ (by simp)]; simp [ho, hn]
          · rw [ih _ (by simp)]; simp [ho, hn]
        | false =>
          simp only [Bool.false_eq_true, if_false]
          rcases hw with rfl | rfl | rfl
          · rw [ih _ (by simp)]; simp [ho, hn]
          · rw [ih _ (by simp)]; simp [ho, hn]
          · rw [ih _ (by simp)]; simp [ho, hn]
  rw [key xs 0 (.inl rfl)]
  unfold holdE mayV
  cases h1 : xs.any (outB T.length) <;> cases h2 : xs.any (notP T a b c) <;> simp
end Go.Proofs.Ytljdiaokjocfpaa.Ls

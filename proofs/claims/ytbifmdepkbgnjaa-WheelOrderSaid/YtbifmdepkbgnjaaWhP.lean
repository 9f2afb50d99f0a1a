/- wheel: plain law: timers as pairs of a kind and a time. -/
import Derived.Test.YtbifmdepkbgnjaaWhE
namespace Go.Proofs.Ytbifmdepkbgnjaa.Wh
set_option linter.unusedVariables false
set_option linter.unusedSimpArgs false

abbrev Pr := Nat × Nat
def uq (M : List Pr) : Prop := M.Pairwise fun p q => p.1 ≠ q.1
def kk (n : Nat) : Ky := ((n : Int), 0, 0, 0, 0, 0)
def tmOf (p : Pr) : Tm := ((p.1 : Int), 0, 0, 0, 0, 0, (p.2 : Int))
def off (n : Nat) (M : List Pr) : List Pr := M.filter fun p => !(p.1 == n)
def there (M : List Pr) (n : Nat) : Bool := M.any fun p => p.1 == n
def val (M : List Pr) (n : Nat) : Int := (((M.find? fun p => p.1 == n).map (·.2)).getD 0 : Nat)
theorem kk_beq (a b : Nat) : (kk a == kk b) = (a == b) := by
  have h : ∀ x y : Int, (((x, 0, 0, 0, 0, 0) : Ky) == (y, 0, 0, 0, 0, 0)) = (x == y) := fun x y => by
    show (x == y && ((0 : Int) == 0 && ((0 : Int) == 0 && ((0 : Int) == 0 && ((0 : Int) == 0 && (0 : Int) == 0))))) = (x == y)
    simp
  unfold kk
  rw [h]
  by_cases e : a = b
  · subst e; simp
  · have h1 : ((a : Int) == (b : Int)) = false := by simpa using fun h => e (Int.ofNat_inj.1 h)
    have h2 : (a == b) = false := by simpa using e
    rw [h1, h2]
theorem drop_map (n : Nat) (M : List Pr) : dropT [kk n] (M.map tmOf) = (off n M).map tmOf := by
  unfold dropT off
  rw [List.filter_map]
  congr 1
  refine List.filter_congr fun p _ => ?_
  show (!(kk p.1 == kk n || false)) = _
  rw [kk_beq, Bool.or_false]
theorem int_beq (a b : Nat) : ((a : Int) == (b : Int)) = (a == b) := by
  by_cases e : a = b
  · subst e; simp
  · have h1 : ((a : Int) == (b : Int)) = false := by simpa using fun h => e (Int.ofNat_inj.1 h)
    have h2 : (a == b) = false := by simpa using e
    rw [h1, h2]
theorem due_map (d : Nat) (M : List Pr) : (M.map tmOf).filter (isDue d) = (M.filter fun p => p.2 == d).map tmOf := by
  rw [List.filter_map]
  congr 1
  refine List.filter_congr fun p _ => ?_
  show ((p.2 : Int) == (d : Int)) = _
  rw [int_beq]
theorem rest_map (d : Nat) (M : List Pr) : ((M.map tmOf).filter fun t => !isDue d t) = (M.filter fun p => !(p.2 == d)).map tmOf := by
  rw [List.filter_map]
  congr 1
  refine List.filter_congr fun p _ => ?_
  show (!((p.2 : Int) == (d : Int))) = _
  rw [int_beq]
theorem off_self {n : Nat} {M : List Pr} (h : there M n = false) : off n M = M := by
  unfold off
  rw [List.filter_eq_self]
  intro p hp
  have := List.any_eq_false.1 h p hp
  simpa using this
theorem uq_off {n : Nat} {M : List Pr} (h : uq M) : uq (off n M) := List.Pairwise.sublist List.filter_sublist h
theorem uq_filter {f : Pr → Bool} {M : List Pr} (h : uq M) : uq (M.filter f) := List.Pairwise.sublist List.filter_sublist h
theorem uq_snoc {n d : Nat} {M : List Pr} (h : uq M) (hn : there M n = false) : uq (M ++ [(n, d)]) := by
  unfold uq
  rw [List.pairwise_append]
  refine ⟨h, List.pairwise_singleton _ _, fun p hp q hq => ?_⟩
  simp at hq
  subst hq
  have := List.any_eq_false.1 hn p hp
  simpa using this
theorem off_len {n : Nat} : ∀ {M : List Pr}, uq M → ((M.length : Int) - (off n M).length) = if there M n then 1 else 0
  | [], _ => by simp [off, there]
  | p :: M, h => by
    obtain ⟨h1, h2⟩ := List.pairwise_cons.1 h
    have ih := off_len (n := n) h2
    by_cases e : p.1 = n
    · have ht : there M n = false := by
        unfold there
        rw [List.any_eq_false]
        intro q hq
        have := h1 q hq
        simp; omega
      have h3 := off_self ht
      have : off n (p :: M) = off n M := by unfold off; rw [List.filter_cons_of_neg (by simp [e])]
      have h4 : there (p :: M) n = true := by unfold there; simp [e]
      rw [this, h3, h4, List.length_cons, if_pos rfl]
      omega
    · have : off n (p :: M) = p :: off n M := by unfold off; rw [List.filter_cons_of_pos (by simp [e])]
      have h4 : there (p :: M) n = there M n := by unfold there; simp [e]
      rw [this, h4, ← ih]
      simp only [List.length_cons]
      omega
theorem there_snoc (M : List Pr) (n d x : Nat) : there (M ++ [(n, d)]) x = (there M x || n == x) := by simp [there]
theorem there_off (M : List Pr) (n x : Nat) : there (off n M) x = (there M x && !(x == n)) := by
  rw [Bool.eq_iff_iff]
  simp only [there, off, List.any_eq_true, List.mem_filter, Bool.and_eq_true, beq_iff_eq, Bool.not_eq_true', beq_eq_false_iff_ne]
  constructor
  · rintro ⟨p, ⟨h1, h2⟩, h3⟩
    exact ⟨⟨p, h1, h3⟩, by omega⟩
  · rintro ⟨⟨p, h1, h3⟩, h2⟩
    exact ⟨p, ⟨h1, by omega⟩, h3⟩
theorem val_snoc {M : List Pr} {n d : Nat} (hn : there M n = false) (x : Nat) : val (M ++ [(n, d)]) x = if x = n then (d : Int) else val M x := by
  unfold val
  rw [List.find?_append]
  by_cases e : x = n
  · subst e
    have : M.find? (fun p => p.1 == x) = none := by
      rw [List.find?_eq_none]
      intro p hp
      have := List.any_eq_false.1 hn p hp
      simpa using this
    rw [this]
    simp
  · rw [if_neg e]
    have h2 : ([(n, d)] : List Pr).find? (fun p => p.1 == x) = none := by
      rw [List.find?_eq_none]
      intro p hp
      simp at hp
      subst hp
      simp; omega
    rw [h2, Option.or_none]
theorem val_off (M : List Pr) (n x : Nat) : val (off n M) x = if x = n then 0 else val M x := by
  unfold val off
  by_cases e : x = n
  · subst e
    have : (M.filter fun p => !(p.1 == x)).find? (fun p => p.1 == x) = none := by
      rw [List.find?_eq_none]
      intro p hp
      have := (List.mem_filter.1 hp).2
      simpa using this
    rw [this, if_pos rfl]
    simp
  · rw [if_neg e]
    congr 3
    rw [List.find?_filter]
    congr 1
    funext p
    by_cases h : p.1 = x
    · simp [h, e]
    · simp [h]
theorem val_mem {M : List Pr} (h : uq M) {p : Pr} (hp : p ∈ M) : val M p.1 = p.2 := by
  unfold val
  induction M with
  | nil => cases hp
  | cons q M ih =>
    obtain ⟨h1, h2⟩ := List.pairwise_cons.1 h
    rcases List.mem_cons.1 hp with rfl | hp
    · simp
    · have hne := h1 p hp
      rw [List.find?_cons_of_neg (by simpa using hne)]
      exact ih h2 hp
/-- one more of those that are due is deleted. -/
def undone (M : List Pr) (l : List Pr) : List Pr := M.filter fun p => !(l.contains p)
theorem undone_step {M : List Pr} (h : uq M) (l : List Pr) {p : Pr} (hp : p ∈ M) : off p.1 (undone M l) = undone M (l ++ [p]) := by
  unfold off undone
  rw [List.filter_filter]
  refine List.filter_congr fun q hq => ?_
  have he : (q.1 == p.1) = (q == p) := by
    rw [Bool.eq_iff_iff, beq_iff_eq, beq_iff_eq]
    constructor
    · intro e
      exact uq_inj h hq hp e
    · rintro rfl; rfl
  rw [he, List.contains_append, List.contains_cons, List.contains_nil, Bool.or_false, Bool.not_or, Bool.and_comm]
where
  uq_inj {M : List Pr} (h : uq M) {q p : Pr} (hq : q ∈ M) (hp : p ∈ M) (e : q.1 = p.1) : q = p := by
    induction M with
    | nil => cases hq
    | cons a M ih =>
      obtain ⟨h1, h2⟩ := List.pairwise_cons.1 h
      rcases List.mem_cons.1 hq with e1 | hq1 <;> rcases List.mem_cons.1 hp with e2 | hp1
      · rw [e1, e2]
      · exact absurd (e1 ▸ e) (h1 p hp1)
      · exact absurd (e2 ▸ e.symm) (h1 q hq1)
      · exact ih h2 hq1 hp1
theorem undone_nil (M : List Pr) : undone M [] = M := by simp [undone]
theorem undone_all (M : List Pr) (d : Nat) : undone M (M.filter fun p => p.2 == d) = M.filter fun p => !(p.2 == d) := by
  unfold undone
  refine List.filter_congr fun p hp => ?_
  congr 1
  rw [Bool.eq_iff_iff]
  simp [hp]
end Go.Proofs.Ytbifmdepkbgnjaa.Wh

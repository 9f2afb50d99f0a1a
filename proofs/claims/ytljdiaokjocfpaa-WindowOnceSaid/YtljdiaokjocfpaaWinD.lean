/- The law of the window: what the bits say is what the list says. -/
import Derived.Test.YtljdiaokjocfpaaWinC
namespace Go.Proofs.Ytljdiaokjocfpaa.Win
open Go.RowKit Go.Proofs.Ytljdiaokjocfpaa.L Go.Proofs.Ytljdiaokjocfpaa.A Go.Proofs.Ytljdiaokjocfpaa.R Go.Proofs.Ytljdiaokjocfpaa.S
set_option linter.unusedVariables false
set_option linter.unusedSimpArgs false

theorem grt_snoc (L : List Int) (n : Int) : grt (L ++ [n]) = if grt L < n then n else grt L := by unfold grt; rw [List.foldl_append]; rfl
theorem grt_le (L : List Int) : ∀ (g : Int), g ≤ L.foldl (fun g x => if g < x then x else g) g ∧ ∀ x ∈ L, x ≤ L.foldl (fun g x => if g < x then x else g) g := by
  induction L with
  | nil => intro g; exact ⟨Int.le_refl _, by simp⟩
  | cons y L ih =>
    intro g
    obtain ⟨h1, h2⟩ := ih (if g < y then y else g)
    have h3 : g ≤ (if g < y then y else g) ∧ y ≤ (if g < y then y else g) := by split <;> omega
    refine ⟨Int.le_trans h3.1 h1, fun x hx => ?_⟩
    rcases List.mem_cons.1 hx with rfl | hx
    · exact Int.le_trans h3.2 h1
    · exact h2 x hx
theorem le_grt {L : List Int} {x : Int} (h : x ∈ L) : x ≤ grt L := (grt_le L 0).2 x h
theorem bit_shl (x d i : Nat) : (shl64 x d).testBit i = (decide (i < 64) && decide (d ≤ i) && x.testBit (i - d)) := by
  unfold shl64
  rw [Nat.testBit_mod_two_pow, Nat.testBit_mul_two_pow]
  by_cases hi : i < 64
  · by_cases hd : d ≤ 64
    · rw [Nat.min_eq_left hd]; simp [hi]
    · rw [Nat.min_eq_right (by omega)]
      have h1 : ¬ 64 ≤ i := by omega
      have h2 : ¬ d ≤ i := by omega
      simp [h1, h2]
  · simp [hi]
structure Inv (g x : Nat) (L : List Int) : Prop where
  grt : (g : Int) = grt L
  rng : ∀ z ∈ L, 1 ≤ z ∧ z ≤ 1099511627776
  lt : x < 2 ^ 64
  bit : ∀ i, i < 64 → (x.testBit i = true ↔ ((g : Int) - i) ∈ L)
theorem Inv.nil : Inv 0 0 [] := ⟨rfl, by simp, by decide, by simp⟩
theorem Inv.g_le {g x : Nat} {L : List Int} (h : Inv g x L) : g ≤ 1099511627776 := by
  have := (grt_rng L 0 (by omega) h.rng).2
  have h2 := h.grt
  unfold Win.grt at h2
  omega
theorem Inv.ok {g x : Nat} {L : List Int} (h : Inv g x L) (f : Nat) : (St.mk g x f).ok := ⟨h.g_le, h.lt⟩
theorem Inv.seen {g x : Nat} {L : List Int} (h : Inv g x L) (n : Int) : seenB g x n = refB L n := by
  unfold seenB refB
  by_cases a1 : n < 1
  · simp [a1]
  · by_cases a2 : 1099511627776 < n
    · simp [a2]
    · have hg := h.grt
      by_cases a3 : (g : Int) < n
      · have h1 : ¬ n ≤ Win.grt L - 64 := by omega
        have h2 : n ∉ L := fun hm => by have := le_grt hm; omega
        simp [a1, a2, a3, h1, h2]
      · by_cases a4 : 64 ≤ (g : Int) - n
        · have h1 : n ≤ Win.grt L - 64 := by omega
          simp [a1, a2, a3, a4, h1]
        · have h1 : ¬ n ≤ Win.grt L - 64 := by omega
          have hb := h.bit ((g : Int) - n).toNat (by omega)
          have e : (g : Int) - (((g : Int) - n).toNat : Nat) = n := by omega
          rw [e] at hb
          simp only [a1, a2, a3, a4, h1, decide_false, Bool.false_or, Bool.not_false, Bool.true_and]
          rw [Bool.eq_iff_iff, hb, List.contains_iff_mem]
theorem Inv.see {g x : Nat} {L : List Int} (h : Inv g x L) (n : Nat) (hn : seenB g x n = false) : Inv (max g n) (seeX g x n) (L ++ [(n : Int)]) := by
  have hr := seen_false hn
  have hg := h.grt
  refine ⟨?_, ?_, seeX_lt _ _ _ h.lt, ?_⟩
  · rw [grt_snoc, ← hg]
    split <;> omega
  · intro z hz
    rcases List.mem_append.1 hz with hz | hz
    · exact h.rng z hz
    · obtain rfl : z = n := by simpa using hz
      exact hr
  · intro i hi
    rw [List.mem_append, List.mem_singleton]
    unfold seeX
    rw [Nat.testBit_or, Bool.or_eq_true, bit_shl 1]
    have h1 : ((1 : Nat).testBit (i - (max g n - n)) = true) ↔ i - (max g n - n) = 0 := by
      rw [show (1 : Nat) = 2 ^ 0 from rfl, Nat.testBit_two_pow]
      simp; omega
    by_cases a : g < n
    · have e1 : max g n = n := by omega
      rw [if_pos a, e1, bit_shl]
      rw [e1] at h1
      simp only [hi, decide_true, Bool.true_and, Bool.and_eq_true, decide_eq_true_eq, h1]
      constructor
      · rintro (⟨hd, hb⟩ | ⟨_, hb⟩)
        · left
          have := (h.bit (i - (n - g)) (by omega)).1 hb
          have e : (g : Int) - ((i - (n - g) : Nat) : Int) = (n : Int) - i := by omega
          rwa [e] at this
        · right; omega
      · rintro (hm | hm)
        · have hle := le_grt hm
          have hd : n - g ≤ i := by omega
          left
          refine ⟨hd, (h.bit (i - (n - g)) (by omega)).2 ?_⟩
          have e : (g : Int) - ((i - (n - g) : Nat) : Int) = (n : Int) - i := by omega
          rwa [e]
        · right; omega
    · have e1 : max g n = g := by omega
      rw [if_neg a, e1]
      rw [e1] at h1
      simp only [hi, decide_true, Bool.true_and, Bool.and_eq_true, decide_eq_true_eq, h1]
      rw [h.bit i hi]
      constructor
      · rintro (hm | ⟨h2, h3⟩)
        · exact .inl hm
        · right; omega
      · rintro (hm | hm)
        · exact .inl hm
        · right; omega
/-- one number: whether it's new. -/
theorem all_one (g x : Nat) (n : Int) : (St.mk g x 0).all [n] = if seenB g x n then ⟨g, x, 0⟩ else ⟨max g n.toNat, seeX g x n.toNat, 1⟩ := by
  show (St.mk g x 0).see n = _
  unfold St.see
  rfl
end Go.Proofs.Ytljdiaokjocfpaa.Win

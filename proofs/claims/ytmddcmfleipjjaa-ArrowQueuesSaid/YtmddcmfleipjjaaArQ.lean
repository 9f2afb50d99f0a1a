/- arrow: plain law: the loop over events of finds at the same time. -/
import Derived.Test.YtmddcmfleipjjaaArP
namespace Go.Proofs.Ytmddcmfleipjjaa.Ar
set_option linter.unusedVariables false
set_option linter.unusedSimpArgs false

def has (L : List Int) (m : Nat) : Bool := L.contains (m : Int)
theorem has_snoc (L : List Int) (x : Nat) : has (L ++ [(x : Int)]) = fun m => m == x || has L m := by
  funext m
  have e : ((m : Int) == (x : Int)) = (m == x) := by
    by_cases h : m = x
    · subst h; simp
    · have h1 : ((m : Int) == (x : Int)) = false := by simpa using fun h2 => h (Int.ofNat_inj.1 h2)
      have h2 : (m == x) = false := by simpa using h
      rw [h1, h2]
  unfold has
  rw [List.contains_append, Bool.or_comm, ← e]
  simp only [List.contains_cons, List.contains_nil, Bool.or_false]
structure Inv (N : Nat) (to : Nat → Nat) (l : List Fd) (AL BL : List Int) (asks ended k n : Nat) : Prop where
  qs : Qs N to l (has AL) (has BL) asks ended
  pot : left l ≤ 7 * asks
  big : l = [] ∨ left l + (k - n) ≤ 112
  al : AL.length ≤ asks + 1
  bl : BL.length ≤ ended
section
variable {N : Nat} {to : Nat → Nat} {l : List Fd} {AL BL : List Int} {asks ended k n : Nat}
theorem Inv.start (hN : N ≤ 16) {f : Nat} (hf : In N f) : Inv N (fun m => T m f) [] [(f : Int)] [] 0 0 0 n := by
  have h := Qs.start hN hf (to := fun m => T m f) (fun m _ => rfl)
  have e1 : has [(f : Int)] = fun m => m == f := by have := has_snoc [] f; simpa [has] using this
  have e2 : has [] = fun _ => false := by funext m; simp [has]
  exact ⟨by rw [e1, e2]; exact h, by simp [left], .inl rfl, by simp, by simp⟩
theorem Inv.counts (h : Inv N to l AL BL asks ended k n) : asks ≤ 16 ∧ ended ≤ 16 ∧ l.length ≤ 16 ∧ AL.length ≤ 17 ∧ BL.length ≤ 16 := by
  have h1 := h.qs.asks_le
  have h2 := h.qs.cnt
  have h3 := h.al
  have h4 := h.bl
  omega
/-- an asking that may not be yet, or nothing on its way. -/
theorem Inv.skip (h : Inv N to l AL BL asks ended k n) (hk : k < n ∨ l = []) : Inv N to l AL BL asks ended (k + 1) n := by
  refine ⟨h.qs, h.pot, ?_, h.al, h.bl⟩
  rcases hk with hk | hk
  · right
    have := h.pot
    have := h.qs.asks_le
    omega
  · exact .inl hk
theorem Inv.want (hN : N ≤ 16) (h : Inv N to l AL BL asks ended k n) (hk : k < n) {w : Nat} (hw : In N w) (ha : has AL w = false) :
    to w ≠ w ∧ Inv N (upd to w w) (l ++ [⟨w, w, to w⟩]) (AL ++ [(w : Int)]) BL (asks + 1) ended (k + 1) n := by
  obtain ⟨h1, h2, h3⟩ := h.qs.want hN hw ha
  have hp := h.pot
  have hal := h.al
  have := h2.asks_le
  refine ⟨h1, ⟨by rw [has_snoc]; exact h2, by omega, .inr (by omega), by simp; omega, h.bl⟩⟩
theorem Inv.ends (hN : N ≤ 16) (h : Inv N to l AL BL asks ended k n) {i : Nat} (hi : i < l.length) {F : Fd} (hF : l[i] = F) (hh : to F.tt = F.tt) :
    has AL F.tt = true ∧ has BL F.tt = false ∧ F.tt ≠ F.who ∧ Inv N (upd to F.tt F.fr) (l.eraseIdx i) AL (BL ++ [(F.tt : Int)]) asks (ended + 1) (k + 1) n := by
  obtain ⟨-, -, -, -, g, -⟩ := h.qs.come hN hi hF
  obtain ⟨g1, g2, g3, g4, g5⟩ := g hh
  have hp := h.pot
  have hbl := h.bl
  refine ⟨g1, g2, g3, ⟨by rw [has_snoc]; exact g4, by omega, ?_, h.al, by simp; omega⟩⟩
  rcases h.big with hb | hb
  · subst hb; simp at hi
  · right
    omega
theorem Inv.on (hN : N ≤ 16) (h : Inv N to l AL BL asks ended k n) {i : Nat} (hi : i < l.length) {F : Fd} (hF : l[i] = F) (hh : to F.tt ≠ F.tt) :
    Inv N (upd to F.tt F.fr) (l.eraseIdx i ++ [⟨F.who, F.tt, to F.tt⟩]) AL BL asks ended (k + 1) n := by
  obtain ⟨-, -, -, -, -, g⟩ := h.qs.come hN hi hF
  obtain ⟨g4, g5⟩ := g hh
  have hp := h.pot
  refine ⟨g4, by omega, ?_, h.al, h.bl⟩
  rcases h.big with hb | hb
  · subst hb; simp at hi
  · right
    omega
theorem Inv.dest (hN : N ≤ 16) (h : Inv N to l AL BL asks ended k n) {i : Nat} (hi : i < l.length) {F : Fd} (hF : l[i] = F) : In N F.tt ∧ In N F.fr ∧ F.tt ≠ F.fr ∧ T F.tt F.fr = F.fr := by
  obtain ⟨h1, h2, h3, h4, -⟩ := h.qs.come hN hi hF
  exact ⟨h1, h2, h3.symm, h4⟩
theorem Inv.fin (hN : N ≤ 16) (h : Inv N to l AL BL asks ended (n + 200) n) : l = [] ∧ ended = asks := by
  have h0 : l = [] := by
    rcases h.big with hb | hb
    · exact hb
    · exfalso; omega
  refine ⟨h0, ?_⟩
  have := h.qs.cnt
  rw [h0] at this
  simpa using this
end
end Go.Proofs.Ytmddcmfleipjjaa.Ar

/- LeaseAlone, in plain Lean: what one operation makes of each hold; rows of holds and truths. -/
import Derived.Test.YtljdiaokjocfpaaLsQ
namespace Go.Proofs.Ytljdiaokjocfpaa.Ls
open Go.RowKit Go.Proofs.Ytljdiaokjocfpaa.L Go.Proofs.Ytljdiaokjocfpaa.O Go.Proofs.Ytljdiaokjocfpaa.A Go.Proofs.Ytljdiaokjocfpaa.R Go.Proofs.Ytljdiaokjocfpaa.S Go.Proofs.Ytljdiaokjocfpaa.T
set_option linter.unusedVariables false
set_option linter.unusedSimpArgs false

theorem tidB_iff {a b c a' b' c' : Int} : tidB a b c a' b' c' = true ↔ a = a' ∧ b = b' ∧ c = c' := by simp [tidB]
/-- S comes of T by holding for one. -/
def Came (ta tb tc : Int) (T S : List Slt) : Prop :=
  S.length = T.length ∧ ∀ i, (h : i < T.length) → (h' : i < S.length) → S[i] = T[i] ∨ (S[i].a = ta ∧ S[i].b = tb ∧ S[i].c = tc ∧ S[i].on = true ∧ (T[i].on = true → T[i].a = ta ∧ T[i].b = tb ∧ T[i].c = tc ∧ T[i].u ≤ S[i].u))
theorem came_fold (ta tb tc u : Int) (T : List Slt) : ∀ (xs : List Int) (S : List Slt), Came ta tb tc T S → (∀ x ∈ xs, outB T.length x = false ∧ notP T ta tb tc x = false) → Came ta tb tc T (xs.foldl (hold1 ta tb tc u) S)
  | [], S, h, _ => h
  | x :: xs, S, h, hx => by
    refine came_fold ta tb tc u T xs _ ?_ fun y hy => hx y (by simp [hy])
    obtain ⟨ho, hn⟩ := hx x (by simp)
    obtain ⟨k, rfl, hk⟩ := out_false ho
    refine ⟨by simp [hold1, h.1], fun i hi hi' => ?_⟩
    have hiS : i < S.length := by rw [h.1]; exact hi
    simp only [hold1, Int.toNat_natCast, List.getElem_set]
    by_cases e : k = i
    · subst e
      rw [if_pos rfl]
      refine .inr ⟨rfl, rfl, rfl, rfl, fun hon => ?_⟩
      have hg : getS T (k : Int) = T[k] := by simp [getS, hi]
      have hgS : getS S (k : Int) = S[k] := by simp [getS, hiS]
      unfold notP at hn
      rw [hg, hon] at hn
      simp only [Bool.true_and, Bool.not_eq_false'] at hn
      obtain ⟨e1, e2, e3⟩ := tidB_iff.1 hn
      refine ⟨e1, e2, e3, ?_⟩
      rw [hgS]
      rcases h.2 k hi hiS with hs | ⟨_, _, _, hs, hu⟩
      · rw [hs, hon]; simp only [if_true]; omega
      · rw [hs]; simp only [if_true]; have := (hu hon).2.2.2; omega
    · rw [if_neg e]
      exact h.2 i hi hiS
theorem came_hold (ta tb tc u : Int) (T : List Slt) (xs : List Int) : Came ta tb tc T (holdS T ta tb tc u xs) := by
  have hr : Came ta tb tc T T := ⟨rfl, fun i h h' => .inl rfl⟩
  unfold holdS
  split
  · rename_i hE
    refine came_fold ta tb tc u T xs T hr fun x hx => ?_
    have h1 : xs.any (outB T.length) = false := by
      cases h : xs.any (outB T.length) with
      | false => rfl
      | true => simp [holdE, h] at hE
    have h2 : mayV T ta tb tc xs = true := by
      cases h : mayV T ta tb tc xs with
      | true => rfl
      | false => simp [holdE, h1, h] at hE
    simp only [mayV, h1, Bool.not_false, Bool.true_and, Bool.not_eq_true'] at h2
    exact ⟨any_false h1 x hx, any_false h2 x hx⟩
  · exact hr
def was (s : Slt) : Slt := if s.on then s else zeroS
theorem holdOf_was (s : Slt) : holdOf s = #[.int .i64 (was s).a, .int .i64 (was s).b, .int .i64 (was s).c, .int .i64 (was s).u] := by
  unfold holdOf was
  cases s.on <;> rfl
def applyOp (k n a b c : Int) (xs : List Int) (T : List Slt) : List Slt :=
  if k = 0 then holdS T a b c n xs else if k = 1 then dropS (fun s => tidB s.a s.b s.c a b c) T else if k = 2 then dropS (fun s => decide (s.u ≤ n)) T else T
theorem holdS_len (ta tb tc u : Int) (T : List Slt) (xs : List Int) : (holdS T ta tb tc u xs).length = T.length := (came_hold ta tb tc u T xs).1
theorem applyOp_len (k n a b c : Int) (xs : List Int) (T : List Slt) : (applyOp k n a b c xs T).length = T.length := by
  unfold applyOp
  split
  · exact holdS_len _ _ _ _ _ _
  · split
    · simp [dropS]
    · split <;> simp [dropS]
/-- what must be told of one cell. -/
structure One (k n a b c : Int) (s s' : Slt) : Prop where
  kept : s.on = true → (k = 1 → tidB s.a s.b s.c a b c = false) → (k = 2 → n < s.u) → s'.on = true ∧ s'.a = s.a ∧ s'.b = s.b ∧ s'.c = s.c ∧ s.u ≤ s'.u
  gone1 : s.on = true → k = 1 → tidB s.a s.b s.c a b c = true → s'.on = false
  gone2 : s.on = true → k = 2 → s.u ≤ n → s'.on = false
  new : s.on = false → s'.on = true → k = 0 ∧ s'.a = a ∧ s'.b = b ∧ s'.c = c
theorem drop_one {q : Slt → Bool} {T : List Slt} {i : Nat} (h : i < T.length) : (dropS q T)[i]'(by simp [dropS]; exact h) = if T[i].on && q T[i] then zeroS else T[i] := by simp [dropS, dropF]
theorem apply_one (k n a b c : Int) (xs : List Int) (T : List Slt) (i : Nat) (h : i < T.length) : One k n a b c T[i] ((applyOp k n a b c xs T)[i]'(by rw [applyOp_len]; exact h)) := by
  by_cases k0 : k = 0
  · have e : applyOp k n a b c xs T = holdS T a b c n xs := by simp [applyOp, k0]
    have hc := came_hold a b c n T xs
    simp only [e]
    have hi' : i < (holdS T a b c n xs).length := by rw [hc.1]; exact h
    refine ⟨fun hon _ _ => ?_, fun _ h1 => by omega, fun _ h1 => by omega, fun hon hon' => ⟨k0, ?_⟩⟩
    · rcases hc.2 i h hi' with hs | ⟨s1, s2, s3, s4, hu⟩
      · rw [hs]; exact ⟨hon, rfl, rfl, rfl, Int.le_refl _⟩
      · obtain ⟨u1, u2, u3, u4⟩ := hu hon
        exact ⟨s4, s1.trans u1.symm, s2.trans u2.symm, s3.trans u3.symm, u4⟩
    · rcases hc.2 i h hi' with hs | ⟨s1, s2, s3, s4, hu⟩
      · rw [hs, hon] at hon'; cases hon'
      · exact ⟨s1, s2, s3⟩
  · by_cases k1 : k = 1
    · have e : applyOp k n a b c xs T = dropS (fun s => tidB s.a s.b s.c a b c) T := by simp [applyOp, k1]
      simp only [e, drop_one h]
      refine ⟨fun hon hq _ => ?_, fun hon _ hq => ?_, fun _ h1 => by omega, fun hon hon' => ?_⟩
      · rw [hon, hq k1]; exact ⟨hon, rfl, rfl, rfl, Int.le_refl _⟩
      · rw [hon, hq]; rfl
      · rw [hon] at hon'; simp only [Bool.false_and, Bool.false_eq_true, if_false] at hon'; rw [hon] at hon'; cases hon'
    · by_cases k2 : k = 2
      · have e : applyOp k n a b c xs T = dropS (fun s => decide (s.u ≤ n)) T := by simp [applyOp, k2]
        simp only [e, drop_one h]
        refine ⟨fun hon _ hq => ?_, fun _ h1 => by omega, fun hon _ hq => ?_, fun hon hon' => ?_⟩
        · have := hq k2
          rw [hon, decide_eq_false (by omega)]; exact ⟨hon, rfl, rfl, rfl, Int.le_refl _⟩
        · rw [hon, decide_eq_true hq]; rfl
        · rw [hon] at hon'; simp only [Bool.false_and, Bool.false_eq_true, if_false] at hon'; rw [hon] at hon'; cases hon'
      · have e : applyOp k n a b c xs T = T := by simp [applyOp, k0, k1, k2]
        simp only [e]
        exact ⟨fun hon _ _ => ⟨hon, rfl, rfl, rfl, Int.le_refl _⟩, fun _ h1 => by omega, fun _ h1 => by omega, fun hon hon' => by rw [hon] at hon'; cases hon'⟩
theorem was_on {s : Slt} (h : s.on = true) : was s = s := by simp [was, h]
theorem One.kept' {k n a b c : Int} {s s' : Slt} (h : One k n a b c s s') (hon : s.on = true) (h1 : k = 1 → tidB (was s).a (was s).b (was s).c a b c = false) (h2 : k = 2 → n < (was s).u) :
    s'.on = true ∧ tidB (was s').a (was s').b (was s').c (was s).a (was s).b (was s).c = true ∧ (was s).u ≤ (was s').u := by
  rw [was_on hon] at h1 h2 ⊢
  obtain ⟨e0, e1, e2, e3, e4⟩ := h.kept hon h1 h2
  rw [was_on e0]
  exact ⟨e0, tidB_iff.2 ⟨e1, e2, e3⟩, e4⟩
theorem One.gone1' {k n a b c : Int} {s s' : Slt} (h : One k n a b c s s') (hon : s.on = true) (h1 : k = 1) (ht : tidB (was s).a (was s).b (was s).c a b c = true) : s'.on = false := by
  rw [was_on hon] at ht
  exact h.gone1 hon h1 ht
theorem One.gone2' {k n a b c : Int} {s s' : Slt} (h : One k n a b c s s') (hon : s.on = true) (h1 : k = 2) (ht : (was s).u ≤ n) : s'.on = false := by
  rw [was_on hon] at ht
  exact h.gone2 hon h1 ht
theorem One.new' {k n a b c : Int} {s s' : Slt} (h : One k n a b c s s') (hon : s.on = false) (hon' : s'.on = true) : k = 0 ∧ tidB (was s').a (was s').b (was s').c a b c = true := by
  obtain ⟨e0, e1, e2, e3⟩ := h.new hon hon'
  rw [was_on hon']
  exact ⟨e0, tidB_iff.2 ⟨e1, e2, e3⟩⟩
/-! ### rows -/
def holdsV (T : List Slt) (c : Nat) : List Value := (T.take c).flatMap fun s => (holdOf s).toList
def onsV (T : List Slt) (c : Nat) : List Value := (T.take c).map fun s => .bool s.on
structure Rows2 (w : World) (B : Nat) (v u : Value) (T : List Slt) (c : Nat) : Prop where
  hs : w.ownsRow B 58 4 v c (holdsV T c)
  ons : w.ownsRow B 4 1 u c (onsV T c)
  ne : ∀ k, v.ownBlock = some k → u.ownBlock ≠ some k
theorem Rows2.below {w w1 : World} {B : Nat} {v u : Value} {T : List Slt} {c : Nat} (h : Rows2 w B v u T c) (hb : Below w.heap.size w w1) : Rows2 w1 B v u T c := ⟨own_kept h.hs hb, own_kept h.ons hb, h.ne⟩
theorem Rows2.keep {w w1 : World} {B g : Nat} {v u : Value} {T : List Slt} {c : Nat} (h : Rows2 w B v u T c) (hk : Keep [g] w w1) (hg : g < B) : Rows2 w1 B v u T c :=
  ⟨own_keep h.hs hk (fun k h1 h2 => by have := (h.hs.lt k h1).1; simp at h2; omega), own_keep h.ons hk (fun k h1 h2 => by have := (h.ons.lt k h1).1; simp at h2; omega), h.ne⟩
theorem holdsV_succ (T : List Slt) (c : Nat) (h : c < T.length) : holdsV T (c + 1) = holdsV T c ++ (holdOf T[c]).toList := by
  unfold holdsV
  rw [List.take_succ_eq_append_getElem h, List.flatMap_append]
  simp only [List.flatMap_cons, List.flatMap_nil, List.append_nil]
theorem onsV_succ (T : List Slt) (c : Nat) (h : c < T.length) : onsV T (c + 1) = onsV T c ++ [.bool T[c].on] := by
  unfold onsV
  rw [List.take_succ_eq_append_getElem h, List.map_append]
  rfl
theorem holdsV_len (T : List Slt) (c : Nat) (h : c ≤ T.length) : (holdsV T c).length = c * 4 := by
  induction c with
  | zero => simp [holdsV]
  | succ c ih => rw [holdsV_succ T c (by omega), List.length_append, ih (by omega), holdOf_was]; simp; omega
theorem holdsV_at (T : List Slt) : ∀ (n c j : Nat) (hc : c < n), (hn : n ≤ T.length) → j < 4 → (holdsV T n)[c * 4 + j]? = (holdOf (T[c]'(by omega)))[j]?
  | 0, c, j, hc, _, _ => absurd hc (by omega)
  | n + 1, c, j, hc, hn, hj => by
    rw [holdsV_succ T n (by omega)]
    by_cases h : c < n
    · rw [List.getElem?_append_left (by rw [holdsV_len T n (by omega)]; omega)]
      exact holdsV_at T n c j h (by omega) hj
    · obtain rfl : c = n := by omega
      rw [List.getElem?_append_right (by rw [holdsV_len T c (by omega)]; omega), holdsV_len T c (by omega)]
      rw [show c * 4 + j - c * 4 = j by omega, Array.getElem?_toList]
/-- what the rows hold at c. -/
theorem Rows2.at {w : World} {B : Nat} {v u : Value} {T : List Slt} {n : Nat} (h : Rows2 w B v u T n) (hn : n ≤ T.length) (c : Nat) (hc : c < n) (s : Slt) (hs : T[c]'(by omega) = s) : ∃ g1 c1 g2 c2, v = .slice (some ⟨g1, 0, none⟩) n c1 ∧ u = .slice (some ⟨g2, 0, none⟩) n c2 ∧
    w.cell? ⟨g1, c * 4, none⟩ = some (.int .i64 (was s).a) ∧ w.cell? ⟨g1, c * 4 + 1, none⟩ = some (.int .i64 (was s).b) ∧ w.cell? ⟨g1, c * 4 + 2, none⟩ = some (.int .i64 (was s).c) ∧ w.cell? ⟨g1, c * 4 + 3, none⟩ = some (.int .i64 (was s).u) ∧ w.cell? ⟨g2, c, none⟩ = some (.bool s.on) := by
  obtain ⟨hl1, h1⟩ := h.hs
  obtain ⟨hl2, h2⟩ := h.ons
  rcases h1 with ⟨rfl, e⟩ | ⟨g1, cap1, cur1, rfl, hb1, hg1, hn1, hm1, hs1, ht1⟩
  · have := holdsV_len T n hn
    rw [hl1] at this
    have e2 : n * 4 = (holdsV T n).length := hl1.symm
    have : (holdsV T n).length = 0 := by simp_all
    omega
  rcases h2 with ⟨rfl, e⟩ | ⟨g2, cap2, cur2, rfl, hb2, hg2, hn2, hm2, hs2, ht2⟩
  · have : (onsV T n).length = 0 := by simp_all
    rw [hl2] at this
    omega
  have hA : ∀ j, j < 4 → w.cell? ⟨g1, c * 4 + j, none⟩ = (holdOf s)[j]? := fun j hj => by
    rw [cell_of_row w g1 (c * 4 + j) cur1 _ _ hg1, ← Array.getElem?_toList, ← List.getElem?_take_of_lt (by omega : c * 4 + j < n * 4), ht1, holdsV_at T n c j hc hn hj, hs]
  have hB : w.cell? ⟨g2, c, none⟩ = some (.bool s.on) := by
    rw [cell_of_row w g2 c cur2 _ _ hg2, ← Array.getElem?_toList, ← List.getElem?_take_of_lt (by omega : c < n * 1), ht2]
    have hct : c < T.length := by omega
    simp [onsV, hc, hct, hs]
  rw [holdOf_was] at hA
  exact ⟨g1, cap1, g2, cap2, rfl, rfl, hA 0 (by omega), hA 1 (by omega), hA 2 (by omega), hA 3 (by omega), hB⟩
theorem own_grown {w w' : World} {B : Nat} {e : TypeId} {size n : Nat} {v : Value} {xs : List Value} {row : Option Nat} (h : w.ownsRow B e size v n xs) (hg : w.grownBy w' row) (hne : ∀ k, v.ownBlock = some k → row ≠ some k) : w'.ownsRow B e size v n xs :=
  h.kept hg (by cases hv : v.ownBlock with
    | none => exact .inl rfl
    | some k => exact .inr fun e => hne k hv e.symm)
/-- behind the first append. -/
theorem Rows2.mid {w3 w4 : World} {B : Nat} {v u : Value} {T : List Slt} {c : Nat} {o1 o2 : Obj} (h : Rows2 w3 B v u T c) (hg1 : ((w3.alloc o1).alloc o2).grownBy w4 v.ownBlock) : w4.ownsRow B 4 1 u c (onsV T c) :=
  own_grown ((h.ons.alloc _).alloc _) hg1 fun k hk e => h.ne k e hk
theorem Rows2.fin {w3 w4 w5 : World} {B : Nat} {v u v1 u1 : Value} {T : List Slt} {c : Nat} {o1 o2 o3 : Obj} {X : List Value} {b : Value} (h : Rows2 w3 B v u T c) (hB : B ≤ w3.heap.size) (hc : c < T.length) (hX : (holdOf T[c]).toList = X) (hb : Value.bool T[c].on = b)
    (ho1 : w4.ownsRow B 58 4 v1 (c + 1) (holdsV T c ++ X)) (hg1 : ((w3.alloc o1).alloc o2).grownBy w4 v.ownBlock) (hv1 : v1.ownBlock = v.ownBlock ∨ v1.ownBlock = some ((w3.alloc o1).alloc o2).heap.size)
    (ho2 : w5.ownsRow B 4 1 u1 (c + 1) (onsV T c ++ [b])) (hg2 : (w4.alloc o3).grownBy w5 u.ownBlock) (hv2 : u1.ownBlock = u.ownBlock ∨ u1.ownBlock = some (w4.alloc o3).heap.size) : Rows2 w5 B v1 u1 T (c + 1) ∧ Below B w3 w5 := by
  have hne1 : ∀ k, v1.ownBlock = some k → u.ownBlock ≠ some k := by
    intro k hk e
    rcases hv1 with h1 | h1
    · exact h.ne k (h1.symm.trans hk) e
    · rw [h1] at hk
      have := (h.ons.lt k e).2
      simp at hk
      omega
  refine ⟨⟨?_, ?_, ?_⟩, ?_⟩
  · rw [holdsV_succ T c hc, hX]
    exact own_grown (ho1.alloc _) hg2 fun k hk => hne1 k hk
  · rw [onsV_succ T c hc, hb]
    exact ho2
  · intro k hk e
    rcases hv2 with h2 | h2
    · exact hne1 k hk (h2.symm.trans e)
    · rw [h2] at e
      have := (ho1.lt k hk).2
      simp at e
      omega
  · have hb1 : Below B w3 w4 := (((Below.refl B w3).alloc hB o1).alloc (by simp; omega) o2).trans (below_of_grown hg1 (by simp; omega) fun k hk => (h.hs.lt k hk).1)
    have hs4 := hb1.size
    exact (hb1.alloc (by omega) o3).trans (below_of_grown hg2 (by simp; omega) fun k hk => (h.ons.lt k hk).1)
end Go.Proofs.Ytljdiaokjocfpaa.Ls

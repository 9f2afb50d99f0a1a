/- wheel: what the stable sort does, as functions on lists. -/
import Derived.Test.YtbifmdepkbgnjaaWhC
namespace Go.Proofs.Ytbifmdepkbgnjaa.Wh
open Go.RowKit Go.Proofs.Ytbifmdepkbgnjaa.L Go.Proofs.Ytbifmdepkbgnjaa.R Go.Proofs.Ytbifmdepkbgnjaa.A Go.Proofs.Ytbifmdepkbgnjaa.S Go.Proofs.Ytbifmdepkbgnjaa.T Go.Proofs.Ytbifmdepkbgnjaa.C Go.Proofs.Ytbifmdepkbgnjaa.G Go.Proofs.Ytbifmdepkbgnjaa.E Go.Proofs.Ytbifmdepkbgnjaa.F
set_option linter.unusedVariables false
set_option linter.unusedSimpArgs false

def cmpT (a b : Tm) : Int := if dueOf a < dueOf b then -1 else if dueOf b < dueOf a then 1 else 0
def lt (a b : Tm) : Bool := decide (dueOf a < dueOf b)
theorem cmp_lt (a b : Tm) : decide (cmpT a b < 0) = lt a b := by
  unfold cmpT lt
  by_cases h : dueOf a < dueOf b
  · simp [h]
  · rw [if_neg h]
    by_cases h2 : dueOf b < dueOf a
    · simp [h, h2]
    · simp [h, h2]
/-- two places are exchanged. -/
def swp (T : List Tm) (i j : Nat) : List Tm := match T[i]?, T[j]? with
  | some x, some y => (T.set i y).set j x
  | _, _ => T
theorem swp_len (T : List Tm) (i j : Nat) : (swp T i j).length = T.length := by unfold swp; split <;> simp
theorem swp_at {T : List Tm} {i j : Nat} {x y : Tm} (hi : T[i]? = some x) (hj : T[j]? = some y) : swp T i j = (T.set i y).set j x := by unfold swp; rw [hi, hj]
def swapR (T : List Tm) (a b : Nat) : Nat → List Tm
  | 0 => T
  | n + 1 => swp (swapR T a b n) (a + n) (b + n)
theorem swapR_len (T : List Tm) (a b : Nat) : ∀ n, (swapR T a b n).length = T.length
  | 0 => rfl
  | n + 1 => by rw [swapR, swp_len, swapR_len T a b n]
def rotG (m : Nat) : Nat → List Tm → Nat → Nat → List Tm
  | 0, T, i, j => T
  | f + 1, T, i, j => if i = j then swapR T (m - i) m i else if j < i then rotG m f (swapR T (m - i) m j) (i - j) j else rotG m f (swapR T (m - i) (m + j - i) i) i (j - i)
theorem rotG_len (m : Nat) : ∀ f T i j, (rotG m f T i j).length = T.length
  | 0, T, i, j => rfl
  | f + 1, T, i, j => by
    rw [rotG]
    split
    · rw [swapR_len]
    · split
      · rw [rotG_len m f, swapR_len]
      · rw [rotG_len m f, swapR_len]
def rot (T : List Tm) (a m b : Nat) : List Tm := rotG m (b - a) T (m - a) (b - m)
theorem rot_len (T : List Tm) (a m b : Nat) : (rot T a m b).length = T.length := rotG_len _ _ _ _ _
/-- binary search: the end of those places from i on, below j, of which p tells true. -/
def bsG (p : Nat → Bool) : Nat → Nat → Nat → Nat
  | 0, i, j => i
  | f + 1, i, j => if i < j then if p ((i + j) / 2) then bsG p f ((i + j) / 2 + 1) j else bsG p f i ((i + j) / 2) else i
def bs (p : Nat → Bool) (i j : Nat) : Nat := bsG p (j - i + 1) i j
theorem bsG_range (p : Nat → Bool) : ∀ f i j, i ≤ j → i ≤ bsG p f i j ∧ bsG p f i j ≤ j
  | 0, i, j, h => ⟨Nat.le_refl _, h⟩
  | f + 1, i, j, h => by
    rw [bsG]
    split
    · split
      · have := bsG_range p f ((i + j) / 2 + 1) j (by omega); omega
      · have := bsG_range p f i ((i + j) / 2) (by omega); omega
    · omega
theorem bsG_more (p : Nat → Bool) : ∀ f g i j, j - i < f → f ≤ g → bsG p g i j = bsG p f i j
  | 0, g, i, j, h, _ => absurd h (by omega)
  | f + 1, 0, i, j, h, hg => absurd hg (by omega)
  | f + 1, g + 1, i, j, h, hg => by
    rw [bsG, bsG]
    split
    · split
      · exact bsG_more p f g _ _ (by omega) (by omega)
      · exact bsG_more p f g _ _ (by omega) (by omega)
    · rfl
/-- a place goes up by n, by exchanges. -/
def upB (T : List Tm) (a : Nat) : Nat → List Tm
  | 0 => T
  | n + 1 => swp (upB T a n) (a + n) (a + n + 1)
theorem upB_len (T : List Tm) (a : Nat) : ∀ n, (upB T a n).length = T.length
  | 0 => rfl
  | n + 1 => by rw [upB, swp_len, upB_len T a n]
/-- a place goes down by n. -/
def downB (T : List Tm) (m : Nat) : Nat → List Tm
  | 0 => T
  | n + 1 => swp (downB T m n) (m - n) (m - n - 1)
theorem downB_len (T : List Tm) (m : Nat) : ∀ n, (downB T m n).length = T.length
  | 0 => rfl
  | n + 1 => by rw [downB, swp_len, downB_len T m n]
def ltAt (T : List Tm) (i j : Nat) : Bool := match T[i]?, T[j]? with
  | some x, some y => lt x y
  | _, _ => false
theorem ltAt_at {T : List Tm} {i j : Nat} {x y : Tm} (hi : T[i]? = some x) (hj : T[j]? = some y) : ltAt T i j = lt x y := by unfold ltAt; rw [hi, hj]
def symS (T : List Tm) (a m b : Nat) : Nat :=
  let mid := (a + b) / 2
  let n := mid + m
  bs (fun c => !(ltAt T (n - 1 - c) c)) (if mid < m then n - b else a) (if mid < m then mid else m)
def symM : Nat → List Tm → Nat → Nat → Nat → List Tm
  | 0, T, a, m, b => T
  | f + 1, T, a, m, b =>
    if m - a = 1 then upB T a (bs (fun h => ltAt T h a) m b - 1 - a)
    else if b - m = 1 then downB T m (m - bs (fun h => !(ltAt T m h)) a m)
    else
      let mid := (a + b) / 2
      let s := symS T a m b
      let e := mid + m - s
      let T1 := if s < m ∧ m < e then rot T s m e else T
      let T2 := if a < s ∧ s < mid then symM f T1 a s mid else T1
      if mid < e ∧ e < b then symM f T2 mid e b else T2
theorem symM_len : ∀ f T a m b, (symM f T a m b).length = T.length
  | 0, T, a, m, b => rfl
  | f + 1, T, a, m, b => by
    rw [symM]
    split
    · rw [upB_len]
    · split
      · rw [downB_len]
      · dsimp only
        have h1 : (if symS T a m b < m ∧ m < (a + b) / 2 + m - symS T a m b then rot T (symS T a m b) m ((a + b) / 2 + m - symS T a m b) else T).length = T.length := by
          split
          · rw [rot_len]
          · rfl
        generalize (if symS T a m b < m ∧ m < (a + b) / 2 + m - symS T a m b then rot T (symS T a m b) m ((a + b) / 2 + m - symS T a m b) else T) = T1 at h1 ⊢
        have h2 : (if a < symS T a m b ∧ symS T a m b < (a + b) / 2 then symM f T1 a (symS T a m b) ((a + b) / 2) else T1).length = T.length := by
          split
          · rw [symM_len f, h1]
          · exact h1
        generalize (if a < symS T a m b ∧ symS T a m b < (a + b) / 2 then symM f T1 a (symS T a m b) ((a + b) / 2) else T1) = T2 at h2 ⊢
        split
        · rw [symM_len f, h2]
        · exact h2
/-- the place j goes down while it is less than the one ahead. -/
def sink (a : Nat) : List Tm → Nat → List Tm
  | T, 0 => T
  | T, j + 1 => if a < j + 1 ∧ ltAt T (j + 1) j = true then sink a (swp T (j + 1) j) j else T
theorem sink_len (a : Nat) : ∀ j T, (sink a T j).length = T.length
  | 0, T => rfl
  | j + 1, T => by
    rw [sink]
    split
    · rw [sink_len a j, swp_len]
    · rfl
/-- insertion sort of the places from a on: n of them behind the first. -/
def insS (T : List Tm) (a : Nat) : Nat → List Tm
  | 0 => T
  | n + 1 => sink a (insS T a n) (a + 1 + n)
theorem insS_len (T : List Tm) (a : Nat) : ∀ n, (insS T a n).length = T.length
  | 0 => rfl
  | n + 1 => by rw [insS, sink_len, insS_len T a n]
/-! ### memory -/
theorem compare_any (x y : Int) (w : World) : Calls Try.prog 32 #[.int .i64 x, .int .i64 y] w fun e w' => e = .returned (.int .i64 (if x < y then -1 else if y < x then 1 else 0)) ∧ w = w' := by
  have hnan : ∀ z : Int, ∀ W : World, Calls Try.prog 37 #[.int .i64 z] W fun e w' => e = .returned (.bool false) ∧ W = w' := fun z W => by
    go_enter Try.func37, Try.ntmps37
    go_wp2
    go_ret
    exact ⟨retbf rfl, rfl⟩
  have HN := Lib.hid hnan
  clear hnan
  by_cases h1 : x < y
  · have d1 : decide (x < y) = true := by simpa using h1
    have HR : Hid ((if x < y then (-1 : Int) else if y < x then 1 else 0) = -1) := Lib.hid (if_pos h1)
    rw [HR.out]
    clear h1
    go_enter Try.func32, Try.ntmps32
    go_wp2_with fail
    refine (HN.out _ _).mono ?_
    rintro e w1 ⟨rfl, rfl⟩
    go_wp2_with fail
    refine (HN.out _ _).mono ?_
    rintro e w1 ⟨rfl, rfl⟩
    go_wp2
    go_ret
    exact ⟨rfl, rfl⟩
  · have d1 : decide (x < y) = false := by simpa using h1
    by_cases h2 : y < x
    · have d2 : decide (y < x) = true := by simpa using h2
      have HR : Hid ((if x < y then (-1 : Int) else if y < x then 1 else 0) = 1) := Lib.hid (by rw [if_neg h1, if_pos h2])
      rw [HR.out]
      clear h1 h2
      go_enter Try.func32, Try.ntmps32
      go_wp2_with fail
      refine (HN.out _ _).mono ?_
      rintro e w1 ⟨rfl, rfl⟩
      go_wp2_with fail
      refine (HN.out _ _).mono ?_
      rintro e w1 ⟨rfl, rfl⟩
      go_wp2
      go_ret
      exact ⟨rfl, rfl⟩
    · have d2 : decide (y < x) = false := by simpa using h2
      have HR : Hid ((if x < y then (-1 : Int) else if y < x then 1 else 0) = 0) := Lib.hid (by rw [if_neg h1, if_neg h2])
      rw [HR.out]
      clear h1 h2
      go_enter Try.func32, Try.ntmps32
      go_wp2_with fail
      refine (HN.out _ _).mono ?_
      rintro e w1 ⟨rfl, rfl⟩
      go_wp2_with fail
      refine (HN.out _ _).mono ?_
      rintro e w1 ⟨rfl, rfl⟩
      go_wp2
      go_ret
      exact ⟨rfl, rfl⟩
theorem cmp1 (x y : Tm) (w : World) : Calls Try.prog 31 #[aggT x, aggT y] w fun e w' => e = .returned (.int .i64 (cmpT x y)) ∧ Below w.heap.size w w' := by
  obtain ⟨W1, hW1⟩ : ∃ W1, Hid (w.alloc (.cells (encT x).toArray TM) = W1) := ⟨_, Lib.hid rfl⟩
  obtain ⟨W2, hW2⟩ : ∃ W2, Hid (W1.alloc (.cells (encT y).toArray TM) = W2) := ⟨_, Lib.hid rfl⟩
  have hb1 : Below w.heap.size w W1 := by rw [← hW1.out]; exact below_alloc _ _
  have hb2 : Below W1.heap.size W1 W2 := by rw [← hW2.out]; exact below_alloc _ _
  have g1 : W1.heap[w.heap.size]? = some (.cells (encT x).toArray TM (0, 0)) := by rw [← hW1.out]; exact heap_alloc_new _ _
  have g2 : W2.heap[W1.heap.size]? = some (.cells (encT y).toArray TM (0, 0)) := by rw [← hW2.out]; exact heap_alloc_new _ _
  have g3 := keep_block (.of_below (S := []) hb2) g1 (by simp)
  have hs : W1.heap.size = w.heap.size + 1 := by rw [← hW1.out]; exact World.size_alloc _ _
  have HB := Lib.hid (below2 hb1 hb2)
  have HC := Lib.hid (compare_any (dueOf x) (dueOf y) W2)
  unfold cmpT
  obtain ⟨r, hr⟩ : ∃ r : Int, (if dueOf x < dueOf y then (-1 : Int) else if dueOf y < dueOf x then 1 else 0) = r := ⟨_, rfl⟩
  rw [hr] at HC ⊢
  rw [hs] at g2
  have k1 : W2.cell? ⟨w.heap.size, 6, none⟩ = some (.int .i64 (dueOf x)) := by rw [cell_of_row W2 _ 6 _ _ _ g3]; rfl
  have k2 : W2.cell? ⟨w.heap.size + 1, 6, none⟩ = some (.int .i64 (dueOf y)) := by rw [cell_of_row W2 _ 6 _ _ _ g2]; rfl
  clear g1 g2 g3 hb1 hb2 hs hr
  obtain ⟨x1, x2, x3, x4, x5, x6, x7⟩ := x
  obtain ⟨y1, y2, y3, y4, y5, y6, y7⟩ := y
  dsimp only [encT, aggT, dueOf] at hW1 hW2 HC k1 k2 ⊢
  go_enter Try.func31, Try.ntmps31
  go_wp2_with (rw [hW1.out, hW2.out])
  refine HC.out.mono ?_
  rintro e w1 ⟨rfl, rfl⟩
  go_wp2
  go_ret
  exact ⟨rfl, HB.out⟩
theorem bodied_cmp1 : Bodied Try.prog 31 := fun _ _ => by kernel_rfl
end Go.Proofs.Ytbifmdepkbgnjaa.Wh

/- arrow: a book and the document's arrows side by side. -/
import Derived.Test.YtmddcmfleipjjaaArL
namespace Go.Proofs.Ytmddcmfleipjjaa.Ar
open Go.RowKit Go.Proofs.Ytmddcmfleipjjaa.L Go.Proofs.Ytmddcmfleipjjaa.A Go.Proofs.Ytmddcmfleipjjaa.R Go.Proofs.Ytmddcmfleipjjaa.T Go.Proofs.Ytmddcmfleipjjaa.F Go.Proofs.Ytmddcmfleipjjaa.S Go.Proofs.Ytmddcmfleipjjaa.Sp Go.Proofs.Ytmddcmfleipjjaa.G Go.Proofs.Ytmddcmfleipjjaa.O Go.Proofs.Ytmddcmfleipjjaa.E
set_option linter.unusedVariables false
set_option linter.unusedSimpArgs false

/-! ### plain: which nodes are neighbours -/
def inAll (t : Nat) (l : List Int) : Bool := l.all fun y => decide (1 ≤ y) && decide (y ≤ (t : Int))
def chkE : Bool := all1 fun t => all1 fun a => !(Nat.ble a t) || (inAll t (neighL (a : Int) (t : Int)) && all1 fun y => !(Nat.ble y t) || ((neighL (a : Int) (t : Int)).contains (y : Int) == edgeB (a : Int) (y : Int) (t : Int)))
theorem chkE_ok : chkE = true := by kernel_rfl
theorem edge_range {a y t : Int} (h : edgeB a y t = true) : 1 ≤ y ∧ y ≤ t := by
  unfold edgeB at h
  simp at h
  omega
theorem near_edge {a t : Nat} (ht : t ≤ 16) (ha : In t a) (y : Int) : (neighL (a : Int) (t : Int)).contains y = edgeB a y t := by
  have ht1 : In 16 t := ⟨by have := ha.1; have := ha.2; omega, ht⟩
  have h0 := all1_at (all1_at chkE_ok ht1.1 ht1.2) (ha.up ht).1 (ha.up ht).2
  rw [Nat.ble_eq_true_of_le ha.2] at h0
  simp only [Bool.not_true, Bool.false_or, Bool.and_eq_true] at h0
  obtain ⟨h1, h2⟩ := h0
  by_cases hy : 1 ≤ y ∧ y ≤ t
  · obtain ⟨z, rfl⟩ : ∃ z : Nat, y = (z : Int) := ⟨y.toNat, by omega⟩
    have h3 := all1_at h2 (show 1 ≤ z by omega) (show z ≤ 16 by omega)
    rw [Nat.ble_eq_true_of_le (show z ≤ t by omega)] at h3
    simpa using h3
  · have e1 : edgeB a y t = false := by
      cases h : edgeB a y t with
      | false => rfl
      | true => exact absurd (edge_range h) hy
    rw [e1]
    cases h : (neighL (a : Int) (t : Int)).contains y with
    | false => rfl
    | true =>
      exfalso
      rw [List.contains_iff_mem] at h
      have := List.all_eq_true.1 h1 y h
      simp at this
      omega
theorem tow_nat {a t y : Int} (h : towI a y t ≠ 0) : ∃ a' t' y' : Nat, a = a' ∧ t = t' ∧ y = y' ∧ t' ≤ 16 ∧ In t' a' ∧ In t' y' ∧ towI a y t = (T a' y' : Nat) := by
  have hp : pathL a y t ≠ [] := fun e => h ((tow_zero a y t).1 e)
  have hh : hasB t [a, y] = true := by
    by_cases hh : hasB t [a, y] = true
    · exact hh
    · exfalso; apply hp; unfold pathL; rw [if_neg hh]
  obtain ⟨h1, h2, h3, h4, h5⟩ := has_iff.1 hh
  obtain ⟨a', rfl⟩ : ∃ k : Nat, a = (k : Int) := ⟨a.toNat, by omega⟩
  obtain ⟨y', rfl⟩ : ∃ k : Nat, y = (k : Int) := ⟨y.toNat, by omega⟩
  obtain ⟨t', rfl⟩ : ∃ k : Nat, t = (k : Int) := ⟨t.toNat, by omega⟩
  have ha : In t' a' := ⟨by omega, by omega⟩
  have hy : In t' y' := ⟨by omega, by omega⟩
  exact ⟨a', t', y', rfl, rfl, rfl, by omega, ha, hy, tow_T (by omega) ha hy⟩
def rowX (a t : Nat) (X : List Nat) : List A3 := X.map fun x : Nat => ((a : Int), (t : Int), (x : Int))
theorem rowX_len (a t : Nat) (X : List Nat) : (rowX a t X).length = X.length := by simp [rowX]
theorem rowX_at {a t : Nat} {X : List Nat} {i x : Nat} (h : X[i]? = some x) : (rowX a t X)[i]? = some ((a : Int), (t : Int), (x : Int)) := by simp [rowX, h]
/-- what the arrows are at the start. -/
theorem of_rowX {a t : Int} {xs : List Int} (h1 : 1 ≤ xs.length) (hb : bad a t xs = false) : ∃ a' t' : Nat, ∃ X : List Nat, a = a' ∧ t = t' ∧ t' ≤ 16 ∧ In t' a' ∧ X.length = xs.length ∧ (∀ x ∈ X, In t' x) ∧ ofL a t xs = rowX a' t' X := by
  have hne : ∀ o ∈ xs, towI a o t ≠ 0 := fun o ho he => by
    have : bad a t xs = true := by unfold bad; rw [List.any_eq_true]; exact ⟨o, ho, by rw [he]; rfl⟩
    rw [hb] at this; cases this
  obtain ⟨o0, ho0⟩ : ∃ o, o ∈ xs := ⟨xs[0], List.getElem_mem _⟩
  obtain ⟨a', t', -, rfl, rfl, -, ht, ha, -, -⟩ := tow_nat (hne o0 ho0)
  refine ⟨a', t', xs.map fun o => T a' o.toNat, rfl, rfl, ht, ha, by simp, fun x hx => ?_, ?_⟩
  · obtain ⟨o, ho, rfl⟩ := List.mem_map.1 hx
    obtain ⟨a2, t2, y2, e1, e2, rfl, -, h4, h5, -⟩ := tow_nat (hne o ho)
    have : t' = t2 := by omega
    subst this
    exact t_in ht ha (by simpa using h5)
  · unfold ofL rowX
    rw [List.map_map]
    refine List.map_congr_left fun o ho => ?_
    obtain ⟨a2, t2, y2, e1, e2, rfl, -, h4, h5, h6⟩ := tow_nat (hne o ho)
    have : t' = t2 := by omega
    subst this
    have : a' = a2 := by omega
    subst this
    rw [h6]
    simp
/-! ### memory -/
structure Ar2 (w W : World) (b g c gd cd a t : Nat) (X Y : List Nat) (pr : List (Nat × Obj)) : Prop where
  bk : Bk W b g c (rowX a t X)
  doc : W.ownsRow w.heap.size RA 3 (.slice (some ⟨gd, 0, none⟩) Y.length cd) Y.length ((rowX a t Y).flatMap encA)
  bel : Below w.heap.size w W
  hb : w.heap.size ≤ b
  ne : g ≠ gd ∧ b ≠ gd
  prk : ∀ p ∈ pr, W.heap[p.1]? = some p.2 ∧ p.1 ≠ g ∧ p.1 ≠ gd
section
variable {w W W' : World} {b g c gd cd a t i : Nat} {X Y : List Nat} {pr pr' : List (Nat × Obj)}
theorem Ar2.glt (h : Ar2 w W b g c gd cd a t X Y pr) : b + 1 ≤ g ∧ g < W.heap.size ∧ w.heap.size ≤ gd ∧ gd < W.heap.size := by
  have h1 := own_some h.bk.own
  have h2 := own_some h.doc
  exact ⟨h1.2.1, h1.2.2.1, h2.2.1, h2.2.2.1⟩
theorem Ar2.below (h : Ar2 w W b g c gd cd a t X Y pr) (hb : Below W.heap.size W W') : Ar2 w W' b g c gd cd a t X Y pr :=
  ⟨h.bk.below hb, own_kept h.doc hb, h.bel.trans (hb.mono h.bel.size), h.hb, h.ne, fun p hp => ⟨keep_block (.of_below (S := []) hb) (h.prk p hp).1 (by simp), (h.prk p hp).2⟩⟩
theorem Ar2.sub (h : Ar2 w W b g c gd cd a t X Y pr) (hs : ∀ p ∈ pr', p ∈ pr) : Ar2 w W b g c gd cd a t X Y pr' := ⟨h.bk, h.doc, h.bel, h.hb, h.ne, fun p hp => h.prk p (hs p hp)⟩
/-- a block that is new is protected, too. -/
theorem Ar2.more (h : Ar2 w W b g c gd cd a t X Y pr) (o : Obj) : Ar2 w (W.alloc o) b g c gd cd a t X Y (pr ++ [(W.heap.size, o)]) := by
  have h2 := h.below (below_alloc W o)
  have hg := h.glt
  refine ⟨h2.bk, h2.doc, h2.bel, h2.hb, h2.ne, fun p hp => ?_⟩
  rcases List.mem_append.1 hp with hp | hp
  · exact h2.prk p hp
  · simp at hp
    subst hp
    exact ⟨heap_alloc_new _ _, by show W.heap.size ≠ g; omega, by show W.heap.size ≠ gd; omega⟩
theorem row_put {base : Nat} {e : TypeId} {k cc n : Nat} {L : List A3} {y : Int} (h : W.ownsRow base e 3 (.slice (some ⟨k, 0, none⟩) n cc) n (L.flatMap encA)) (hl : L.length = n) (hi : i < n) {x : A3} (hx : L[i]? = some x) : (W.setCell ⟨k, i * 3 + 2, none⟩ (.int .i64 y)).ownsRow base e 3 (.slice (some ⟨k, 0, none⟩) n cc) n ((L.set i (x.1, x.2.1, y)).flatMap encA) := by
  obtain ⟨h1, -⟩ := own_put (i * 3 + 2) (.int .i64 y) h (by omega)
  have hil : i < L.length := by omega
  have hxe : L[i] = x := by rw [List.getElem?_eq_getElem hil] at hx; exact Option.some.inj hx
  rw [flat_set L i hil, hxe] at h1
  exact h1
theorem rowX_set (y : Nat) (hx : i < X.length) : (rowX a t X).set i ((a : Int), (t : Int), (y : Int)) = rowX a t (X.set i y) := by simp [rowX, List.map_set]
theorem keep_set (k o : Nat) (v : Value) (hb : Below W.heap.size W W') : Keep [k] W (W'.setCell ⟨k, o, none⟩ v) := (Keep.of_below hb).setCell (p := ⟨k, o, none⟩) (.inl (by simp)) _
theorem Ar2.turnB (h : Ar2 w W b g c gd cd a t X Y pr) (hi : i < X.length) {y : Nat} (ht : Turned g (i * 3) y W W') : Ar2 w W' b g c gd cd a t (X.set i y) Y pr := by
  obtain ⟨W0, hb, rfl⟩ := ht
  have hk := keep_set g (i * 3 + 2) (.int .i64 y) hb
  have hg := h.glt
  have h0 := h.below hb
  have hr := row_put (y := (y : Int)) h0.bk.own rfl (by rw [rowX_len]; exact hi) (rowX_at (List.getElem?_eq_getElem hi))
  dsimp only at hr
  rw [rowX_set y hi] at hr
  refine ⟨⟨?_, ?_⟩, own_keep h.doc hk (fun k hk => by simp [Value.ownBlock] at hk; have := h.ne.1; simp; omega), h.bel.trans (hk.below h.bel.size (by simp; have := h.hb; omega)), h.hb, h.ne, fun p hp => ⟨keep_block hk (h.prk p hp).1 (by simpa using (h.prk p hp).2.1), (h.prk p hp).2⟩⟩
  · have := keep_block hk h.bk.blk (by simp; omega)
    rw [rowX_len] at this ⊢
    rw [List.length_set]
    exact this
  · rw [rowX_len] at hr ⊢
    rw [List.length_set]
    exact hr
theorem Ar2.turnD (h : Ar2 w W b g c gd cd a t X Y pr) (hi : i < Y.length) {y : Nat} (ht : Turned gd (i * 3) y W W') : Ar2 w W' b g c gd cd a t X (Y.set i y) pr := by
  obtain ⟨W0, hb, rfl⟩ := ht
  have hk := keep_set gd (i * 3 + 2) (.int .i64 y) hb
  have hg := h.glt
  have h0 := h.below hb
  have hr := row_put (y := (y : Int)) h0.doc (rowX_len _ _ _) hi (rowX_at (List.getElem?_eq_getElem hi))
  dsimp only at hr
  rw [rowX_set y hi] at hr
  refine ⟨⟨keep_block hk h.bk.blk (by have := h.ne.2; simpa using this), own_keep h.bk.own hk (fun k hk => by simp [Value.ownBlock] at hk; have := h.ne.1; simp; omega)⟩, ?_, h.bel.trans (hk.below h.bel.size (by simp; omega)), h.hb, h.ne, fun p hp => ⟨keep_block hk (h.prk p hp).1 (by simpa using (h.prk p hp).2.2), (h.prk p hp).2⟩⟩
  rw [List.length_set]
  exact hr
theorem set_same {xs : List Value} {o : Nat} {v : Value} (h : xs[o]? = some v) : xs.set o v = xs := by
  apply List.ext_getElem?
  intro j
  rw [List.getElem?_set]
  split
  · rename_i e
    subst e
    split
    · exact h.symm
    · rename_i hn
      rw [List.getElem?_eq_none (by omega)]
  · rfl
/-- a whole arrow is stored into a row. -/
theorem row_lay {base : Nat} {e : TypeId} {k cc n : Nat} {L : List A3} {y : Int} (h : W.ownsRow base e 3 (.slice (some ⟨k, 0, none⟩) n cc) n (L.flatMap encA)) (hl : L.length = n) (hi : i < n) {x : A3} (hx : L[i]? = some x) : (((W.setCell ⟨k, i * 3, none⟩ (.int .i64 x.1)).setCell ⟨k, i * 3 + 1, none⟩ (.int .i64 x.2.1)).setCell ⟨k, i * 3 + 2, none⟩ (.int .i64 y)).ownsRow base e 3 (.slice (some ⟨k, 0, none⟩) n cc) n ((L.set i (x.1, x.2.1, y)).flatMap encA) := by
  have f := fun j hj => flat_at encA_len (j := j) hj L i
  simp only [hx, Option.bind_some] at f
  obtain ⟨h1, -⟩ := own_put (i * 3) (.int .i64 x.1) h (by omega)
  rw [set_same (show (L.flatMap encA)[i * 3]? = some (.int .i64 x.1) from f 0 (by decide))] at h1
  obtain ⟨h2, -⟩ := own_put (i * 3 + 1) (.int .i64 x.2.1) h1 (by omega)
  rw [set_same (show (L.flatMap encA)[i * 3 + 1]? = some (.int .i64 x.2.1) from f 1 (by decide))] at h2
  exact row_put h2 hl hi hx
theorem keep_lay (k o : Nat) (v1 v2 v3 : Value) (hb : Below W.heap.size W W') : Keep [k] W (((W'.setCell ⟨k, o, none⟩ v1).setCell ⟨k, o + 1, none⟩ v2).setCell ⟨k, o + 2, none⟩ v3) :=
  (((Keep.of_below hb).setCell (p := ⟨k, o, none⟩) (.inl (by simp)) _).setCell (p := ⟨k, o + 1, none⟩) (.inl (by simp)) _).setCell (p := ⟨k, o + 2, none⟩) (.inl (by simp)) _
theorem Ar2.layB (h : Ar2 w W b g c gd cd a t X Y pr) (hi : i < X.length) {y : Nat} (ht : Laid g (i * 3) a t y W W') : Ar2 w W' b g c gd cd a t (X.set i y) Y pr := by
  obtain ⟨W0, hb, rfl⟩ := ht
  have hk := keep_lay g (i * 3) (.int .i64 a) (.int .i64 t) (.int .i64 y) hb
  have hg := h.glt
  have h0 := h.below hb
  have hr := row_lay (y := (y : Int)) h0.bk.own rfl (by rw [rowX_len]; exact hi) (rowX_at (List.getElem?_eq_getElem hi))
  dsimp only at hr
  rw [rowX_set y hi] at hr
  refine ⟨⟨?_, ?_⟩, own_keep h.doc hk (fun k hk => by simp [Value.ownBlock] at hk; have := h.ne.1; simp; omega), h.bel.trans (hk.below h.bel.size (by simp; have := h.hb; omega)), h.hb, h.ne, fun p hp => ⟨keep_block hk (h.prk p hp).1 (by simpa using (h.prk p hp).2.1), (h.prk p hp).2⟩⟩
  · have := keep_block hk h.bk.blk (by simp; omega)
    rw [rowX_len] at this ⊢
    rw [List.length_set]
    exact this
  · rw [rowX_len] at hr ⊢
    rw [List.length_set]
    exact hr
theorem Ar2.layD (h : Ar2 w W b g c gd cd a t X Y pr) (hi : i < Y.length) {y : Nat} (ht : Laid gd (i * 3) a t y W W') : Ar2 w W' b g c gd cd a t X (Y.set i y) pr := by
  obtain ⟨W0, hb, rfl⟩ := ht
  have hk := keep_lay gd (i * 3) (.int .i64 a) (.int .i64 t) (.int .i64 y) hb
  have hg := h.glt
  have h0 := h.below hb
  have hr := row_lay (y := (y : Int)) h0.doc (rowX_len _ _ _) hi (rowX_at (List.getElem?_eq_getElem hi))
  dsimp only at hr
  rw [rowX_set y hi] at hr
  refine ⟨⟨keep_block hk h.bk.blk (by have := h.ne.2; simpa using this), own_keep h.bk.own hk (fun k hk => by simp [Value.ownBlock] at hk; have := h.ne.1; simp; omega)⟩, ?_, h.bel.trans (hk.below h.bel.size (by simp; omega)), h.hb, h.ne, fun p hp => ⟨keep_block hk (h.prk p hp).1 (by simpa using (h.prk p hp).2.2), (h.prk p hp).2⟩⟩
  rw [List.length_set]
  exact hr
theorem rr_row {base : Nat} {e : TypeId} {k cc n o : Nat} {xs : List Value} {p q z : Int} (h : W.ownsRow base e 3 (.slice (some ⟨k, 0, none⟩) n cc) n xs) (h0 : xs[o]? = some (.int .i64 p)) (h1 : xs[o + 1]? = some (.int .i64 q)) (h2 : xs[o + 2]? = some (.int .i64 z)) : Rr W k o p q z := by
  obtain ⟨-, -, -, hle, -, hc, hr⟩ := own_some h
  have hl : xs.length = n * 3 := h.1
  have := (List.getElem?_eq_some_iff.1 h2).1
  have : n * 3 ≤ cc * 3 := Nat.mul_le_mul_right 3 hle
  exact ⟨hr _ _ h0, hr _ _ h1, hr _ _ h2, (hc _ (by omega)).2⟩
theorem Ar2.rrD (h : Ar2 w W b g c gd cd a t X Y pr) {y : Nat} (hy : Y[i]? = some y) : Rr W gd (i * 3) a t y := by
  have hr := rowX_at (a := a) (t := t) hy
  have f := fun j hj => flat_at encA_len (j := j) hj (rowX a t Y) i
  simp only [hr, Option.bind_some] at f
  exact rr_row h.doc (f 0 (by decide)) (f 1 (by decide)) (f 2 (by decide))
def wz (a x : Nat) : Nat := if x = a then 0 else x
theorem wz_was (a x : Nat) : was (a : Int) (x : Int) = (wz a x : Int) := by
  unfold was wz
  by_cases e : x = a
  · rw [if_pos e, if_pos (by omega)]; rfl
  · rw [if_neg e, if_neg (by omega)]
theorem int_beq (x a : Nat) : ((x : Int) == (a : Int)) = (x == a) := by rw [Bool.eq_iff_iff]; simp; omega
theorem Ar2.want1 (h : Ar2 w W b g c gd cd a t X Y pr) {x : Nat} (hx : X[i]? = some x) : Calls Try.prog 12 #[.pointer (some ⟨b, 0, none⟩), .int .i64 i] W fun e w' => e = .returned (.tuple #[.int .i64 (wz a x), .bool (!(x == a)), .int .i64 0]) ∧ Ar2 w w' b g c gd cd a t (X.set i a) Y pr := by
  have hi := (List.getElem?_eq_some_iff.1 hx).1
  refine (bwant_ok b g c i _ _ W h.bk (rowX_at hx)).mono ?_
  rintro e w' ⟨rfl, ht⟩
  refine ⟨?_, h.turnB hi ht⟩
  dsimp only
  rw [wz_was, int_beq]
theorem Ar2.want2 (h : Ar2 w W b g c gd cd a t X Y pr) {y : Nat} (hy : Y[i]? = some y) : Calls Try.prog 18 #[.pointer (some ⟨gd, i * 3, none⟩)] W fun e w' => e = .returned (.int .i64 (wz a y)) ∧ Ar2 w w' b g c gd cd a t X (Y.set i a) pr := by
  have hi := (List.getElem?_eq_some_iff.1 hy).1
  refine (rwant_any gd (i * 3) a t y W (h.rrD hy)).mono ?_
  rintro e w' ⟨rfl, ht⟩
  refine ⟨?_, h.turnD hi ht⟩
  rw [wz_was]
theorem Ar2.find1 (h : Ar2 w W b g c gd cd a t X Y pr) (ht : t ≤ 16) (ha : In t a) {x : Nat} (hx : X[i]? = some x) (y : Int) : Calls Try.prog 13 #[.pointer (some ⟨b, 0, none⟩), .int .i64 i, .int .i64 y] W fun e w' => e = .returned (.tuple #[.int .i64 ((if edgeB a y t then wz a x else 0 : Nat) : Int), .bool (edgeB a y t && x == a), .int .i64 (if edgeB a y t then 0 else 1)]) ∧ Ar2 w w' b g c gd cd a t (if edgeB a y t then X.set i y.toNat else X) Y pr := by
  have hi := (List.getElem?_eq_some_iff.1 hx).1
  have hf := bfind_ok b g c i _ _ y W h.bk (rowX_at hx) (by have := (ha.up ht).2; dsimp only; omega)
  dsimp only at hf
  simp only [near_edge ht ha y] at hf
  refine hf.mono ?_
  intro e w' he
  cases hq : edgeB a y t with
  | true =>
    simp only [hq, if_true] at he
    obtain ⟨rfl, htu⟩ := he
    obtain ⟨y', rfl⟩ : ∃ y' : Nat, y = (y' : Int) := ⟨y.toNat, by have := edge_range hq; omega⟩
    refine ⟨?_, h.turnB hi htu⟩
    rw [wz_was, int_beq]
    rfl
  | false =>
    simp only [hq, Bool.false_eq_true, if_false] at he
    obtain ⟨rfl, hb⟩ := he
    exact ⟨rfl, h.below hb⟩
theorem Ar2.find2 (h : Ar2 w W b g c gd cd a t X Y pr) (ht : t ≤ 16) (ha : In t a) {x : Nat} (hx : Y[i]? = some x) (y : Int) (hy : -9223372036854775808 ≤ y ∧ y ≤ 9223372036854775807) : Calls Try.prog 19 #[.pointer (some ⟨gd, i * 3, none⟩), .int .i64 y] W fun e w' => e = .returned (.tuple #[.int .i64 ((if edgeB a y t then wz a x else 0 : Nat) : Int), .bool (edgeB a y t)]) ∧ Ar2 w w' b g c gd cd a t X (if edgeB a y t then Y.set i y.toNat else Y) pr := by
  have hi := (List.getElem?_eq_some_iff.1 hx).1
  have hf := rfind_any gd (i * 3) a t x y W (h.rrD hx) (by have := (ha.up ht).2; omega) hy
  refine hf.mono ?_
  intro e w' he
  cases hq : edgeB a y t with
  | true =>
    simp only [hq, if_true] at he
    obtain ⟨rfl, htu⟩ := he
    obtain ⟨y', rfl⟩ : ∃ y' : Nat, y = (y' : Int) := ⟨y.toNat, by have := edge_range hq; omega⟩
    refine ⟨?_, h.turnD hi htu⟩
    rw [wz_was]
    rfl
  | false =>
    simp only [hq, Bool.false_eq_true, if_false] at he
    obtain ⟨rfl, hb⟩ := he
    exact ⟨rfl, h.below hb⟩
/-- where Point and the document's New lead to; 0: nowhere. -/
def pz (a t : Nat) (y : Int) : Nat := (towI a y t).toNat
theorem pz_tow {a t : Nat} (ht : t ≤ 16) (ha : In t a) (y : Int) : towI a y t = (pz a t y : Int) ∧ (pz a t y ≠ 0 → In t (pz a t y)) := by
  unfold pz
  by_cases h : towI a y t = 0
  · rw [h]; exact ⟨rfl, fun h => absurd rfl h⟩
  · obtain ⟨a', t', y', e1, e2, rfl, h1, h2, h3, h4⟩ := tow_nat h
    have : t = t' := by omega
    subst this
    have : a = a' := by omega
    subst this
    rw [h4]
    exact ⟨by simp, fun _ => by simpa using t_in ht h2 h3⟩
theorem Ar2.point1 (h : Ar2 w W b g c gd cd a t X Y pr) (ht : t ≤ 16) (ha : In t a) {x : Nat} (hx : X[i]? = some x) (y : Int) : Calls Try.prog 14 #[.pointer (some ⟨b, 0, none⟩), .int .i64 i, .int .i64 y] W fun e w' => e = .returned (.int .i64 (if pz a t y = 0 then 1 else 0)) ∧ Ar2 w w' b g c gd cd a t (if pz a t y = 0 then X else X.set i (pz a t y)) Y pr := by
  have hi := (List.getElem?_eq_some_iff.1 hx).1
  have hf := bpoint_ok b g c i _ _ y W h.bk (rowX_at hx)
  dsimp only at hf
  obtain ⟨h1, -⟩ := pz_tow ht ha y
  simp only [h1] at hf
  refine hf.mono ?_
  intro e w' he
  by_cases hz : pz a t y = 0
  · rw [if_pos (by omega)] at he
    obtain ⟨rfl, hb⟩ := he
    rw [if_pos hz, if_pos hz]
    exact ⟨rfl, h.below hb⟩
  · rw [if_neg (by omega)] at he
    obtain ⟨rfl, hl⟩ := he
    rw [if_neg hz, if_neg hz]
    exact ⟨rfl, h.layB hi hl⟩
end
end Go.Proofs.Ytmddcmfleipjjaa.Ar

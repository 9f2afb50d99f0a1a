/- arrow: plain laws: the tree of up to 16 nodes; finds one after the other; finds at the same time. -/
import Derived.KernelRfl
namespace Go.Proofs.Ytmddcmfleipjjaa.Ar

def TT : List (List Nat) := [[0, 0, 0, 0, 0, 0, 0, 0, 0, 0, 0, 0, 0, 0, 0, 0, 0], [0, 1, 2, 3, 2, 2, 3, 3, 2, 2, 2, 2, 3, 3, 3, 3, 2], [0, 1, 2, 1, 4, 5, 1, 1, 4, 4, 5, 5, 1, 1, 1, 1, 4], [0, 1, 1, 3, 1, 1, 6, 7, 1, 1, 1, 1, 6, 6, 7, 7, 1], [0, 2, 2, 2, 4, 2, 2, 2, 8, 9, 2, 2, 2, 2, 2, 2, 8], [0, 2, 2, 2, 2, 5, 2, 2, 2, 2, 10, 11, 2, 2, 2, 2, 2], [0, 3, 3, 3, 3, 3, 6, 3, 3, 3, 3, 3, 12, 13, 3, 3, 3], [0, 3, 3, 3, 3, 3, 3, 7, 3, 3, 3, 3, 3, 3, 14, 15, 3], [0, 4, 4, 4, 4, 4, 4, 4, 8, 4, 4, 4, 4, 4, 4, 4, 16], [0, 4, 4, 4, 4, 4, 4, 4, 4, 9, 4, 4, 4, 4, 4, 4, 4], [0, 5, 5, 5, 5, 5, 5, 5, 5, 5, 10, 5, 5, 5, 5, 5, 5], [0, 5, 5, 5, 5, 5, 5, 5, 5, 5, 5, 11, 5, 5, 5, 5, 5], [0, 6, 6, 6, 6, 6, 6, 6, 6, 6, 6, 6, 12, 6, 6, 6, 6], [0, 6, 6, 6, 6, 6, 6, 6, 6, 6, 6, 6, 6, 13, 6, 6, 6], [0, 7, 7, 7, 7, 7, 7, 7, 7, 7, 7, 7, 7, 7, 14, 7, 7], [0, 7, 7, 7, 7, 7, 7, 7, 7, 7, 7, 7, 7, 7, 7, 15, 7], [0, 8, 8, 8, 8, 8, 8, 8, 8, 8, 8, 8, 8, 8, 8, 8, 16]]
def DT : List (List Nat) := [[0, 0, 0, 0, 0, 0, 0, 0, 0, 0, 0, 0, 0, 0, 0, 0, 0], [0, 0, 1, 1, 2, 2, 2, 2, 3, 3, 3, 3, 3, 3, 3, 3, 4], [0, 1, 0, 2, 1, 1, 3, 3, 2, 2, 2, 2, 4, 4, 4, 4, 3], [0, 1, 2, 0, 3, 3, 1, 1, 4, 4, 4, 4, 2, 2, 2, 2, 5], [0, 2, 1, 3, 0, 2, 4, 4, 1, 1, 3, 3, 5, 5, 5, 5, 2], [0, 2, 1, 3, 2, 0, 4, 4, 3, 3, 1, 1, 5, 5, 5, 5, 4], [0, 2, 3, 1, 4, 4, 0, 2, 5, 5, 5, 5, 1, 1, 3, 3, 6], [0, 2, 3, 1, 4, 4, 2, 0, 5, 5, 5, 5, 3, 3, 1, 1, 6], [0, 3, 2, 4, 1, 3, 5, 5, 0, 2, 4, 4, 6, 6, 6, 6, 1], [0, 3, 2, 4, 1, 3, 5, 5, 2, 0, 4, 4, 6, 6, 6, 6, 3], [0, 3, 2, 4, 3, 1, 5, 5, 4, 4, 0, 2, 6, 6, 6, 6, 5], [0, 3, 2, 4, 3, 1, 5, 5, 4, 4, 2, 0, 6, 6, 6, 6, 5], [0, 3, 4, 2, 5, 5, 1, 3, 6, 6, 6, 6, 0, 2, 4, 4, 7], [0, 3, 4, 2, 5, 5, 1, 3, 6, 6, 6, 6, 2, 0, 4, 4, 7], [0, 3, 4, 2, 5, 5, 3, 1, 6, 6, 6, 6, 4, 4, 0, 2, 7], [0, 3, 4, 2, 5, 5, 3, 1, 6, 6, 6, 6, 4, 4, 2, 0, 7], [0, 4, 3, 5, 2, 4, 6, 6, 1, 3, 5, 5, 7, 7, 7, 7, 0]]
/-- the next node from a toward b; how far it is. -/
def T (a b : Nat) : Nat := (TT.getD a []).getD b 0
def D (a b : Nat) : Nat := (DT.getD a []).getD b 0
def all1 (p : Nat → Bool) : Bool := (List.range 17).all fun a => a == 0 || p a
theorem all1_at {p : Nat → Bool} (h : all1 p = true) {a : Nat} (h1 : 1 ≤ a) (h2 : a ≤ 16) : p a = true := by
  have := List.all_eq_true.1 h a (List.mem_range.2 (by omega))
  have h0 : (a == 0) = false := by simp; omega
  rw [h0] at this
  simpa using this
def f2 (a b : Nat) : Bool := ((T a b == a) == (a == b)) && Nat.ble 1 (T a b) && Nat.ble (T a b) (if Nat.ble a b then b else a) && (T (T a b) a == a) && Nat.ble (D a b) 7 && ((D a b == 0) == (a == b)) && (a == b || D (T a b) b + 1 == D a b) && (T a (T a b) == T a b) && (a == b || D a (T a b) == 1)
def onB (w l m : Nat) : Bool := D w m + D m l == D w l
def f3 (w a l : Nat) : Bool :=
  (if onB w l a then (a == l || (D w (T a l) == D w a + 1 && T (T a l) w == a && onB w l (T a l))) && (a == w || (D w (T a w) + 1 == D w a && T (T a w) l == a && onB w l (T a w))) else T a l == T a w) &&
  (a == w || a == l || !(T a l == l) || l == T a w || (T l w == a && !(l == w) && D w l == D w a + 1))
def chk2 : Bool := all1 fun a => all1 fun b => f2 a b
def chk3 : Bool := all1 fun w => all1 fun a => all1 fun l => f3 w a l
theorem chk2_ok : chk2 = true := by kernel_rfl
theorem chk3_ok : chk3 = true := by kernel_rfl
section
variable {a b w l m : Nat}
def In (n a : Nat) : Prop := 1 ≤ a ∧ a ≤ n
theorem f2_at (ha : In 16 a) (hb : In 16 b) : f2 a b = true := all1_at (all1_at chk2_ok ha.1 ha.2) hb.1 hb.2
theorem f3_at (hw : In 16 w) (ha : In 16 a) (hl : In 16 l) : f3 w a l = true := all1_at (all1_at (all1_at chk3_ok hw.1 hw.2) ha.1 ha.2) hl.1 hl.2
theorem t_self_iff (ha : In 16 a) (hb : In 16 b) : T a b = a ↔ a = b := by
  have h := f2_at ha hb
  simp only [f2, Bool.and_eq_true, beq_iff_eq] at h
  have := h.1.1.1.1.1.1.1.1
  rw [Bool.eq_iff_iff] at this
  simpa using this
theorem t_in {n : Nat} (hn : n ≤ 16) (ha : In n a) (hb : In n b) : In n (T a b) := by
  have h := f2_at (a := a) (b := b) ⟨ha.1, by have := ha.2; omega⟩ ⟨hb.1, by have := hb.2; omega⟩
  simp only [f2, Bool.and_eq_true, beq_iff_eq] at h
  have h1 := Nat.le_of_ble_eq_true h.1.1.1.1.1.1.1.2
  have h2 := Nat.le_of_ble_eq_true h.1.1.1.1.1.1.2
  refine ⟨h1, Nat.le_trans h2 ?_⟩
  split
  · exact hb.2
  · exact ha.2
theorem t_back (ha : In 16 a) (hb : In 16 b) : T (T a b) a = a := by
  have h := f2_at ha hb
  simp only [f2, Bool.and_eq_true, beq_iff_eq] at h
  exact h.1.1.1.1.1.2
theorem d_le (ha : In 16 a) (hb : In 16 b) : D a b ≤ 7 := by
  have h := f2_at ha hb
  simp only [f2, Bool.and_eq_true, beq_iff_eq] at h
  exact Nat.le_of_ble_eq_true h.1.1.1.1.2
theorem d_zero (ha : In 16 a) (hb : In 16 b) : D a b = 0 ↔ a = b := by
  have h := f2_at ha hb
  simp only [f2, Bool.and_eq_true, beq_iff_eq] at h
  have := h.1.1.1.2
  rw [Bool.eq_iff_iff] at this
  simpa using this
theorem d_step (ha : In 16 a) (hb : In 16 b) (hne : a ≠ b) : D (T a b) b + 1 = D a b := by
  have h := f2_at ha hb
  simp only [f2, Bool.and_eq_true, Bool.or_eq_true, beq_iff_eq] at h
  exact h.1.1.2.resolve_left hne
theorem t_near (ha : In 16 a) (hb : In 16 b) : T a (T a b) = T a b := by
  have h := f2_at ha hb
  simp only [f2, Bool.and_eq_true, Bool.or_eq_true, beq_iff_eq] at h
  exact h.1.2
theorem d_one (ha : In 16 a) (hb : In 16 b) (hne : a ≠ b) : D a (T a b) = 1 := by
  have h := f2_at ha hb
  simp only [f2, Bool.and_eq_true, Bool.or_eq_true, beq_iff_eq] at h
  exact h.2.resolve_left hne
def onP (w l m : Nat) : Prop := D w m + D m l = D w l
theorem on_next (hw : In 16 w) (ha : In 16 a) (hl : In 16 l) (h : onP w l a) (hne : a ≠ l) : D w (T a l) = D w a + 1 ∧ T (T a l) w = a ∧ onP w l (T a l) := by
  have h3 := f3_at hw ha hl
  have hb : onB w l a = true := by simp only [onB, beq_iff_eq]; exact h
  simp only [f3, hb, if_true, Bool.and_eq_true, Bool.or_eq_true, beq_iff_eq] at h3
  obtain ⟨⟨h1, h2⟩, h4⟩ := h3.1.1.resolve_left hne
  exact ⟨h1, h2, by simp only [onB, beq_iff_eq] at h4; exact h4⟩
theorem on_prev (hw : In 16 w) (ha : In 16 a) (hl : In 16 l) (h : onP w l a) (hne : a ≠ w) : D w (T a w) + 1 = D w a ∧ T (T a w) l = a ∧ onP w l (T a w) := by
  have h3 := f3_at hw ha hl
  have hb : onB w l a = true := by simp only [onB, beq_iff_eq]; exact h
  simp only [f3, hb, if_true, Bool.and_eq_true, Bool.or_eq_true, beq_iff_eq] at h3
  obtain ⟨⟨h1, h2⟩, h4⟩ := h3.1.2.resolve_left hne
  exact ⟨h1, h2, by simp only [onB, beq_iff_eq] at h4; exact h4⟩
theorem off_same (hw : In 16 w) (ha : In 16 a) (hl : In 16 l) (h : ¬ onP w l a) : T a l = T a w := by
  have h3 := f3_at hw ha hl
  have hb : onB w l a = false := by
    cases hx : onB w l a with
    | false => rfl
    | true => simp only [onB, beq_iff_eq] at hx; exact absurd hx h
  simp only [f3, hb, Bool.false_eq_true, if_false, Bool.and_eq_true, beq_iff_eq] at h3
  exact h3.1
/-- a find that goes on from a to a neighbour l, which isn't the one toward w, goes away from w. -/
theorem away (hw : In 16 w) (ha : In 16 a) (hl : In 16 l) (h1 : a ≠ w) (h2 : a ≠ l) (h3 : T a l = l) (h4 : l ≠ T a w) : T l w = a ∧ l ≠ w ∧ D w l = D w a + 1 := by
  have h := f3_at hw ha hl
  simp only [f3, Bool.and_eq_true] at h
  have h := h.2
  simp only [Bool.or_eq_true, Bool.and_eq_true, beq_iff_eq, Bool.not_eq_true', beq_eq_false_iff_ne] at h
  rcases h with (((h | h) | h) | h) | ⟨⟨h, h'⟩, h''⟩
  · exact absurd h h1
  · exact absurd h h2
  · exact absurd h3 h
  · exact absurd h h4
  · exact ⟨h, h', h''⟩
end
def upd (to : Nat → Nat) (a x : Nat) : Nat → Nat := fun m => if m = a then x else to m
theorem upd_same (to : Nat → Nat) (a x : Nat) : upd to a x a = x := by simp [upd]
theorem upd_other {to : Nat → Nat} {a x m : Nat} (h : m ≠ a) : upd to a x m = to m := by simp [upd, h]
/-! ### one after the other -/
/-- all arrows lead to l. -/
def All (n l : Nat) (to : Nat → Nat) : Prop := ∀ m, In n m → to m = T m l
/-- w's find is at p, on its way to l. -/
structure Lead (n w l p : Nat) (to : Nat → Nat) : Prop where
  rng : In n w ∧ In n l ∧ In n p
  on : onP w l p
  one : ∀ m, In n m → onP w l m → D w m = D w p → m = p
  vis : ∀ m, In n m → onP w l m → D w m ≤ D w p → to m = T m w
  rest : ∀ m, In n m → ¬ (onP w l m ∧ D w m ≤ D w p) → to m = T m l
section
variable {n w l p : Nat} {to : Nat → Nat}
theorem In.up {a : Nat} (hn : n ≤ 16) (h : In n a) : In 16 a := ⟨h.1, Nat.le_trans h.2 hn⟩
theorem Lead.start (hn : n ≤ 16) (h : All n l to) (hw : In n w) (hl : In n l) : Lead n w l w (upd to w w) := by
  have z : D w w = 0 := (d_zero (hw.up hn) (hw.up hn)).2 rfl
  have hm : ∀ m, In n m → D w m = 0 → m = w := fun m hm h0 => ((d_zero (hw.up hn) (hm.up hn)).1 h0).symm
  refine ⟨⟨hw, hl, hw⟩, by show D w w + D w l = D w l; omega, fun m hi _ he => hm m hi (by omega), fun m hi _ hle => ?_, fun m hi hno => ?_⟩
  · obtain rfl := hm m hi (by omega)
    rw [upd_same]
    exact ((t_self_iff (hi.up hn) (hi.up hn)).2 rfl).symm
  · have hne : m ≠ w := fun e => hno ⟨by rw [e]; show D w w + D w l = D w l; omega, by rw [e]; exact Nat.le_refl _⟩
    rw [upd_other hne]
    exact h m hi
theorem Lead.step (hn : n ≤ 16) (h : Lead n w l p to) (hp : p ≠ l) : In n (T p l) ∧ T p l ≠ p ∧ T (T p l) p = p ∧ to (T p l) = T (T p l) l ∧ D w (T p l) = D w p + 1 ∧ Lead n w l (T p l) (upd to (T p l) p) := by
  obtain ⟨hw, hl, hpi⟩ := h.rng
  have hq := t_in hn hpi hl
  obtain ⟨h1, h2, h3⟩ := on_next (hw.up hn) (hpi.up hn) (hl.up hn) h.on hp
  have hne : T p l ≠ p := fun e => hp ((t_self_iff (hpi.up hn) (hl.up hn)).1 e)
  have hone : ∀ m, In n m → onP w l m → D w m = D w (T p l) → m = T p l := fun m hm ho he => by
    have hmw : m ≠ w := fun e => by
      have := (d_zero (hw.up hn) (hw.up hn)).2 rfl
      rw [e] at he; omega
    obtain ⟨g1, g2, g3⟩ := on_prev (hw.up hn) (hm.up hn) (hl.up hn) ho hmw
    have := h.one _ (t_in hn hm hw) g3 (by omega)
    rw [this] at g2
    exact g2.symm
  refine ⟨hq, hne, t_back (hpi.up hn) (hl.up hn), h.rest _ hq (fun hx => by omega), h1, ⟨hw, hl, hq⟩, h3, hone, fun m hm ho hle => ?_, fun m hm hno => ?_⟩
  · by_cases e : m = T p l
    · rw [e, upd_same, h2]
    · rw [upd_other e]
      refine h.vis m hm ho ?_
      rcases Nat.lt_or_ge (D w p) (D w m) with hlt | hge
      · exact absurd (hone m hm ho (by omega)) e
      · exact hge
  · have e : m ≠ T p l := fun e => hno ⟨by rw [e]; exact h3, by rw [e]; exact Nat.le_refl _⟩
    rw [upd_other e]
    exact h.rest m hm fun hx => hno ⟨hx.1, by have := hx.2; omega⟩
theorem Lead.fin (hn : n ≤ 16) (h : Lead n w l l to) : All n w to := fun m hm => by
  obtain ⟨hw, hl, -⟩ := h.rng
  by_cases ho : onP w l m
  · exact h.vis m hm ho (by have : D w m + D m l = D w l := ho; omega)
  · rw [h.rest m hm fun hx => ho hx.1]
    exact off_same (hw.up hn) (hm.up hn) (hl.up hn) ho
theorem Lead.far (hn : n ≤ 16) (h : Lead n w l p to) : D w p ≤ 7 := d_le (h.rng.1.up hn) (h.rng.2.2.up hn)
end
/-! ### at the same time -/
/-- a find under way: who asked, and from which node to which it goes. -/
structure Fd where
  who : Nat
  fr : Nat
  tt : Nat
def edge (F G : Fd) : Prop := (F.fr = G.fr ∧ F.tt = G.tt) ∨ (F.fr = G.tt ∧ F.tt = G.fr)
/-- how far the finds under way may still go, together. -/
def left (l : List Fd) : Nat := (l.map fun F => 8 - D F.who F.tt).sum
structure Qs (n : Nat) (to : Nat → Nat) (way : List Fd) (asked behind : Nat → Bool) (asks ended : Nat) : Prop where
  near : ∀ m, In n m → In n (to m) ∧ T m (to m) = to m
  fd : ∀ F ∈ way, In n F.who ∧ In n F.fr ∧ In n F.tt ∧ F.fr = T F.tt F.who ∧ F.tt ≠ F.who ∧ F.fr ≠ F.tt
  free : ∀ F ∈ way, to F.tt ≠ F.fr ∧ to F.fr ≠ F.tt
  two : way.Pairwise fun F G => ¬ edge F G
  pair : ∀ u v, In n u → In n v → u ≠ v → ¬ (to u = v ∧ to v = u)
  home : ∀ m, In n m → to m = m → asked m = true ∧ behind m = false
  beh : ∀ m, behind m = true → asked m = true
  cnt : ended + way.length = asks
  num : asks + 1 = (List.range 17).countP asked
theorem edge_symm {F G : Fd} (h : edge F G) : edge G F := by
  rcases h with ⟨h1, h2⟩ | ⟨h1, h2⟩
  · exact .inl ⟨h1.symm, h2.symm⟩
  · exact .inr ⟨h2.symm, h1.symm⟩
theorem countP_add {p : Nat → Bool} {w : Nat} : ∀ (l : List Nat), l.Nodup → w ∈ l → p w = false → l.countP (fun m => m == w || p m) = l.countP p + 1
  | x :: l, hn, hm, hp => by
    obtain ⟨h1, h2⟩ := List.nodup_cons.1 hn
    by_cases e : x = w
    · subst e
      have : l.countP (fun m => m == x || p m) = l.countP p := List.countP_congr fun m hm => by
        have : m ≠ x := fun e => h1 (e ▸ hm)
        simp [this]
      rw [List.countP_cons, List.countP_cons, this]
      simp [hp]
    · have hm' : w ∈ l := by
        rcases List.mem_cons.1 hm with h | h
        · exact absurd h.symm e
        · exact h
      have ih := countP_add l h2 hm' hp
      rw [List.countP_cons, List.countP_cons, ih]
      have : (x == w || p x) = p x := by simp [e]
      rw [this]
      omega
theorem left_erase : ∀ (l : List Fd) (i : Nat) (hi : i < l.length), left (l.eraseIdx i) + (8 - D l[i].who l[i].tt) = left l
  | F :: l, 0, hi => by simp [left]; omega
  | F :: l, i + 1, hi => by
    have ih := left_erase l i (by simpa using hi)
    simp only [left, List.eraseIdx_cons_succ, List.map_cons, List.sum_cons, List.getElem_cons_succ] at ih ⊢
    omega
theorem left_snoc (l : List Fd) (F : Fd) : left (l ++ [F]) = left l + (8 - D F.who F.tt) := by simp [left]
theorem left_pos {l : List Fd} (h : ∀ F ∈ l, D F.who F.tt ≤ 7) : l.length ≤ left l := by
  induction l with
  | nil => simp [left]
  | cons F l ih =>
    have h1 := h F (by simp)
    have h2 := ih fun G hG => h G (by simp [hG])
    simp only [left, List.map_cons, List.sum_cons, List.length_cons] at h2 ⊢
    omega
section
variable {n : Nat} {to : Nat → Nat} {way : List Fd} {asked behind : Nat → Bool} {asks ended : Nat}
theorem Qs.start (hn : n ≤ 16) {f : Nat} (hf : In n f) (h : All n f to) : Qs n to [] (fun m => m == f) (fun _ => false) 0 0 := by
  refine ⟨fun m hm => ?_, by simp, by simp, List.Pairwise.nil, fun u v hu hv hne hx => ?_, fun m hm he => ?_, by simp, rfl, ?_⟩
  · rw [h m hm]
    exact ⟨t_in hn hm hf, t_near (hm.up hn) (hf.up hn)⟩
  · obtain ⟨h1, h2⟩ := hx
    rw [h u hu] at h1
    rw [h v hv] at h2
    by_cases e : u = f
    · subst e
      exact hne (((t_self_iff (hu.up hn) (hu.up hn)).2 rfl).symm.trans h1)
    · by_cases e2 : v = f
      · subst e2
        exact hne ((h2.symm.trans ((t_self_iff (hv.up hn) (hv.up hn)).2 rfl)))
      · have d1 := d_step (hu.up hn) (hf.up hn) e
        have d2 := d_step (hv.up hn) (hf.up hn) e2
        rw [h1] at d1
        rw [h2] at d2
        omega
  · rw [h m hm] at he
    have := (t_self_iff (hm.up hn) (hf.up hn)).1 he
    exact ⟨by simp [this], rfl⟩
  · have h0 : (List.range 17).countP (fun m => m == f || (fun _ => false) m) = (List.range 17).countP (fun _ => false) + 1 := countP_add _ List.nodup_range (List.mem_range.2 (by have := hf.2; omega)) rfl
    simp only [Bool.or_false] at h0
    rw [h0]
    simp
theorem Qs.asks_le (h : Qs n to way asked behind asks ended) : asks ≤ 16 := by
  have h1 := h.num
  have h2 : (List.range 17).countP asked ≤ (List.range 17).length := List.countP_le_length
  simp at h2
  omega
theorem Qs.d7 (hn : n ≤ 16) (h : Qs n to way asked behind asks ended) : ∀ F ∈ way, D F.who F.tt ≤ 7 := fun F hF => by
  obtain ⟨h1, h2, h3, -⟩ := h.fd F hF
  exact d_le (h1.up hn) (h3.up hn)
theorem Qs.want (hn : n ≤ 16) (h : Qs n to way asked behind asks ended) {w : Nat} (hw : In n w) (ha : asked w = false) :
    to w ≠ w ∧ Qs n (upd to w w) (way ++ [⟨w, w, to w⟩]) (fun m => m == w || asked m) behind (asks + 1) ended ∧ left (way ++ [⟨w, w, to w⟩]) = left way + 7 := by
  have hne : to w ≠ w := fun e => by have := (h.home w hw e).1; rw [ha] at this; cases this
  obtain ⟨hv, hnr⟩ := h.near w hw
  have hb : T (to w) w = w := by have := t_back (hw.up hn) (hv.up hn); rw [hnr] at this; exact this
  have hd : D w (to w) = 1 := by have := d_one (hw.up hn) (hv.up hn) hne.symm; rw [hnr] at this; exact this
  have hww : T w w = w := (t_self_iff (hw.up hn) (hw.up hn)).2 rfl
  refine ⟨hne, ⟨fun m hm => ?_, fun F hF => ?_, fun F hF => ?_, ?_, fun u v hu hv' huv hx => ?_, fun m hm he => ?_, fun m hm => ?_, ?_, ?_⟩, by rw [left_snoc, hd]⟩
  · by_cases e : m = w
    · rw [e, upd_same]; exact ⟨hw, hww⟩
    · rw [upd_other e]; exact h.near m hm
  · rcases List.mem_append.1 hF with hF | hF
    · exact h.fd F hF
    · simp at hF
      subst hF
      exact ⟨hw, hw, hv, hb.symm, hne, hne.symm⟩
  · rcases List.mem_append.1 hF with hF | hF
    · obtain ⟨-, -, -, -, -, g⟩ := h.fd F hF
      obtain ⟨g1, g2⟩ := h.free F hF
      refine ⟨?_, ?_⟩
      · by_cases e : F.tt = w
        · rw [e, upd_same]; exact fun e2 => g (e2.symm.trans e.symm)
        · rw [upd_other e]; exact g1
      · by_cases e : F.fr = w
        · rw [e, upd_same]; exact fun e2 => g (e.trans e2)
        · rw [upd_other e]; exact g2
    · simp at hF
      subst hF
      refine ⟨?_, ?_⟩
      · show upd to w w (to w) ≠ w
        rw [upd_other hne]
        exact fun e => h.pair w (to w) hw hv hne.symm ⟨rfl, e⟩
      · show upd to w w w ≠ to w
        rw [upd_same]
        exact hne.symm
  · rw [List.pairwise_append]
    refine ⟨h.two, List.pairwise_singleton _ _, fun F hF G hG he => ?_⟩
    simp at hG
    subst hG
    obtain ⟨g1, g2⟩ := h.free F hF
    rcases he with ⟨e1, e2⟩ | ⟨e1, e2⟩
    · dsimp only at e1 e2
      rw [e1] at g2
      exact g2 e2.symm
    · dsimp only at e1 e2
      rw [e2] at g1
      exact g1 e1.symm
  · obtain ⟨h1, h2⟩ := hx
    by_cases e : u = w
    · rw [e, upd_same] at h1
      exact huv (e.trans h1)
    · by_cases e2 : v = w
      · rw [e2, upd_same] at h2
        exact huv (h2.symm.trans e2.symm)
      · rw [upd_other e] at h1
        rw [upd_other e2] at h2
        exact h.pair u v hu hv' huv ⟨h1, h2⟩
  · by_cases e : m = w
    · subst e
      refine ⟨by simp, ?_⟩
      cases hbm : behind m with
      | false => rfl
      | true => have := h.beh m hbm; rw [ha] at this; cases this
    · rw [upd_other e] at he
      have := h.home m hm he
      exact ⟨by simp [this.1], this.2⟩
  · simp [h.beh m hm]
  · rw [List.length_append, List.length_singleton]
    have := h.cnt
    omega
  · rw [countP_add _ List.nodup_range (List.mem_range.2 (by have := hw.2; omega)) ha, ← h.num]
theorem Qs.come (hn : n ≤ 16) (h : Qs n to way asked behind asks ended) {i : Nat} (hi : i < way.length) {F : Fd} (hF : way[i] = F) :
    In n F.tt ∧ In n F.fr ∧ F.fr ≠ F.tt ∧ T F.tt F.fr = F.fr ∧
    (to F.tt = F.tt → asked F.tt = true ∧ behind F.tt = false ∧ F.tt ≠ F.who ∧ Qs n (upd to F.tt F.fr) (way.eraseIdx i) asked (fun m => m == F.tt || behind m) asks (ended + 1) ∧ left (way.eraseIdx i) + 1 ≤ left way) ∧
    (to F.tt ≠ F.tt → Qs n (upd to F.tt F.fr) (way.eraseIdx i ++ [⟨F.who, F.tt, to F.tt⟩]) asked behind asks ended ∧ left (way.eraseIdx i ++ [⟨F.who, F.tt, to F.tt⟩]) + 1 = left way) := by
  have hFm : F ∈ way := hF ▸ List.getElem_mem hi
  obtain ⟨hw, hfr, htt, hft, htw, hne⟩ := h.fd F hFm
  obtain ⟨hf1, hf2⟩ := h.free F hFm
  obtain ⟨hy, hyn⟩ := h.near F.tt htt
  have hnear : T F.tt F.fr = F.fr := by rw [hft]; exact t_near (htt.up hn) (hw.up hn)
  have hd7 := d_le (hw.up hn) (htt.up hn)
  have hle := left_erase way i hi
  rw [hF] at hle
  have hlen : (way.eraseIdx i).length + 1 = way.length := by rw [List.length_eraseIdx_of_lt hi]; omega
  have hother : ∀ G ∈ way.eraseIdx i, G ∈ way ∧ ¬ edge F G := fun G hG => by
    obtain ⟨j, hj, hji, rfl⟩ := List.mem_eraseIdx_iff_getElem.1 hG
    refine ⟨List.getElem_mem _, fun he => ?_⟩
    rw [← hF] at he
    have hp := List.pairwise_iff_getElem.1 h.two
    rcases Nat.lt_or_ge i j with hlt | hge
    · exact hp i j hi hj hlt he
    · exact hp j i hj hi (by omega) (edge_symm he)
  have hnr : ∀ m, In n m → In n (upd to F.tt F.fr m) ∧ T m (upd to F.tt F.fr m) = upd to F.tt F.fr m := fun m hm => by
    by_cases e : m = F.tt
    · rw [e, upd_same]; exact ⟨hfr, hnear⟩
    · rw [upd_other e]; exact h.near m hm
  have hfree : ∀ G ∈ way.eraseIdx i, upd to F.tt F.fr G.tt ≠ G.fr ∧ upd to F.tt F.fr G.fr ≠ G.tt := fun G hG => by
    obtain ⟨hGm, hGe⟩ := hother G hG
    obtain ⟨g1, g2⟩ := h.free G hGm
    refine ⟨?_, ?_⟩
    · by_cases e : G.tt = F.tt
      · rw [e, upd_same]; exact fun e2 => hGe (.inl ⟨e2, e.symm⟩)
      · rw [upd_other e]; exact g1
    · by_cases e : G.fr = F.tt
      · rw [e, upd_same]; exact fun e2 => hGe (.inr ⟨e2, e.symm⟩)
      · rw [upd_other e]; exact g2
  have htwo : (way.eraseIdx i).Pairwise fun F G => ¬ edge F G := h.two.sublist (List.eraseIdx_sublist _ _)
  have hpair : ∀ u v, In n u → In n v → u ≠ v → ¬ (upd to F.tt F.fr u = v ∧ upd to F.tt F.fr v = u) := fun u v hu hv huv hx => by
    obtain ⟨h1, h2⟩ := hx
    by_cases e : u = F.tt
    · subst e
      rw [upd_same] at h1
      rw [upd_other huv.symm, ← h1] at h2
      exact hf2 h2
    · by_cases e2 : v = F.tt
      · subst e2
        rw [upd_same] at h2
        rw [upd_other huv, ← h2] at h1
        exact hf2 h1
      · rw [upd_other e] at h1
        rw [upd_other e2] at h2
        exact h.pair u v hu hv huv ⟨h1, h2⟩
  have hhome : ∀ m, In n m → upd to F.tt F.fr m = m → m ≠ F.tt ∧ to m = m := fun m hm he => by
    by_cases e : m = F.tt
    · rw [e, upd_same] at he; exact absurd he hne
    · rw [upd_other e] at he; exact ⟨e, he⟩
  refine ⟨htt, hfr, hne, hnear, fun hh => ?_, fun hh => ?_⟩
  · obtain ⟨hak, hbh⟩ := h.home F.tt htt hh
    refine ⟨hak, hbh, htw, ⟨hnr, fun G hG => h.fd G (hother G hG).1, hfree, htwo, hpair, fun m hm he => ?_, fun m hm => ?_, ?_, h.num⟩, by omega⟩
    · obtain ⟨e1, e2⟩ := hhome m hm he
      have := h.home m hm e2
      exact ⟨this.1, by simp [e1, this.2]⟩
    · by_cases e : m = F.tt
      · rw [e]; exact hak
      · exact h.beh m (by simpa [e] using hm)
    · have := h.cnt; omega
  · have hyu : to F.tt ≠ T F.tt F.who := by rw [← hft]; exact hf1
    obtain ⟨a1, a2, a3⟩ := away (hw.up hn) (htt.up hn) (hy.up hn) htw (fun e => hh e.symm) hyn hyu
    refine ⟨⟨hnr, fun G hG => ?_, fun G hG => ?_, ?_, hpair, fun m hm he => ?_, h.beh, ?_, h.num⟩, ?_⟩
    · rcases List.mem_append.1 hG with hG | hG
      · exact h.fd G (hother G hG).1
      · simp at hG
        subst hG
        exact ⟨hw, htt, hy, a1.symm, a2, fun e => hh e.symm⟩
    · rcases List.mem_append.1 hG with hG | hG
      · exact hfree G hG
      · simp at hG
        subst hG
        refine ⟨?_, ?_⟩
        · show upd to F.tt F.fr (to F.tt) ≠ F.tt
          rw [upd_other hh]
          exact fun e => h.pair F.tt (to F.tt) htt hy (fun e => hh e.symm) ⟨rfl, e⟩
        · show upd to F.tt F.fr F.tt ≠ to F.tt
          rw [upd_same]
          exact hf1.symm
    · rw [List.pairwise_append]
      refine ⟨htwo, List.pairwise_singleton _ _, fun G hG H hH he => ?_⟩
      simp at hH
      subst hH
      obtain ⟨g1, g2⟩ := h.free G (hother G hG).1
      rcases he with ⟨e1, e2⟩ | ⟨e1, e2⟩
      · dsimp only at e1 e2
        rw [e1] at g2
        exact g2 e2.symm
      · dsimp only at e1 e2
        rw [e2] at g1
        exact g1 e1.symm
    · obtain ⟨e1, e2⟩ := hhome m hm he
      exact h.home m hm e2
    · rw [List.length_append, List.length_singleton]
      have := h.cnt
      omega
    · rw [left_snoc]
      show left (way.eraseIdx i) + (8 - D F.who (to F.tt)) + 1 = left way
      have := d_le (hw.up hn) (hy.up hn)
      omega
end
end Go.Proofs.Ytmddcmfleipjjaa.Ar

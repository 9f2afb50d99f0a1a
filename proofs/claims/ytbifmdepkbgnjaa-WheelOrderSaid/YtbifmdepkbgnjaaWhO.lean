/- wheel: plain law of WheelOrder. -/
import Derived.Test.YtbifmdepkbgnjaaWhP
import Derived.Test.YtbifmdepkbgnjaaWhZ
namespace Go.Proofs.Ytbifmdepkbgnjaa.Wh
open Go.RowKit Go.Proofs.Ytbifmdepkbgnjaa.L Go.Proofs.Ytbifmdepkbgnjaa.S Go.Proofs.Ytbifmdepkbgnjaa.T Go.Proofs.Ytbifmdepkbgnjaa.A
set_option linter.unusedVariables false
set_option linter.unusedSimpArgs false

def lastF (acc : List Nat) : List Nat → List Nat
  | [] => acc
  | k :: l => lastF (acc.filter (fun x => !(x == k)) ++ [k]) l
def wantR : List Nat → List Nat
  | [] => []
  | k :: l => if l.contains k then wantR l else k :: wantR l
theorem last_want : ∀ (l acc : List Nat), lastF acc l = acc.filter (fun x => !(l.contains x)) ++ wantR l
  | [], acc => by
    rw [lastF, wantR, List.append_nil, eq_comm, List.filter_eq_self]
    intro a _
    rfl
  | k :: l, acc => by
    rw [lastF, last_want l, List.filter_append, List.filter_filter, wantR]
    have e : (acc.filter fun a => (!(l.contains a)) && !(a == k)) = acc.filter fun x => !((k :: l).contains x) := List.filter_congr fun x _ => by
      rw [List.contains_cons, Bool.not_or, Bool.and_comm]
    rw [e]
    by_cases h : l.contains k = true
    · rw [if_pos h, List.filter_cons_of_neg (by simpa using h)]; simp
    · rw [if_neg h, List.filter_cons_of_pos (by simpa using h)]; simp
theorem lastF_snoc : ∀ (l : List Nat) (acc : List Nat) (k : Nat), lastF acc (l ++ [k]) = (lastF acc l).filter (fun x => !(x == k)) ++ [k]
  | [], acc, k => rfl
  | x :: l, acc, k => by
    rw [List.cons_append, lastF, lastF, lastF_snoc l]
structure OrdI (n i : Nat) (xs : List Nat) (M : List Pr) : Prop where
  a : (M.filter fun p => p.2 == n).map (·.1) = lastF [] (xs.take i)
  b : ∀ p ∈ M, p.2 = n → p.1 < 256
  c : ∀ p ∈ M, p.2 ≠ n → n < p.2 ∧ 1000 ≤ p.1 ∧ p.1 < 1000 + i
  d : (M.filter fun p => !(p.2 == n)).length = i
  len : M.length ≤ 2 * i
theorem OrdI.start (n : Nat) (xs : List Nat) : OrdI n 0 xs [] := ⟨rfl, by simp, by simp, rfl, by simp⟩
theorem OrdI.next {n i k : Nat} {xs : List Nat} {M : List Pr} (h : OrdI n i xs M) (hk : xs[i]? = some k) (h256 : k < 256) : OrdI n (i + 1) xs (off (1000 + i) (off k M ++ [(k, n)]) ++ [(1000 + i, n + 1 + i)]) := by
  have hoff : ∀ p ∈ off k M ++ [(k, n)], p.1 ≠ 1000 + i := fun p hp => by
    rcases List.mem_append.1 hp with hp | hp
    · have hm := (List.mem_filter.1 hp).1
      by_cases e : p.2 = n
      · have := h.b p hm e; omega
      · have := h.c p hm e; omega
    · simp at hp; subst hp; dsimp only; omega
  have e1 : off (1000 + i) (off k M ++ [(k, n)]) = off k M ++ [(k, n)] := by
    refine off_self ?_
    unfold there
    rw [List.any_eq_false]
    intro p hp
    simpa using hoff p hp
  rw [e1]
  have hn1 : ((n + 1 + i : Nat) == n) = false := by simp; omega
  refine ⟨?_, fun p hp e => ?_, fun p hp e => ?_, ?_, ?_⟩
  · rw [List.filter_append, List.filter_append]
    have q1 : ([(1000 + i, n + 1 + i)] : List Pr).filter (fun p => p.2 == n) = [] := by simp [hn1]
    have q2 : ([(k, n)] : List Pr).filter (fun p => p.2 == n) = [(k, n)] := by simp
    rw [q1, q2, List.append_nil, List.map_append]
    have q3 : ((off k M).filter fun p => p.2 == n).map (·.1) = ((M.filter fun p => p.2 == n).map (·.1)).filter (fun x => !(x == k)) := by
      unfold off
      rw [List.filter_filter, List.filter_map, List.filter_filter]
      congr 1
      refine List.filter_congr fun p _ => ?_
      simp only [Function.comp]
      rw [Bool.and_comm]
    rw [q3, h.a, List.take_add_one, hk]
    exact (lastF_snoc _ _ _).symm
  · rcases List.mem_append.1 hp with hp | hp
    · rcases List.mem_append.1 hp with hp | hp
      · exact h.b p (List.mem_filter.1 hp).1 e
      · simp at hp; subst hp; exact h256
    · simp at hp; subst hp; dsimp only at e; omega
  · rcases List.mem_append.1 hp with hp | hp
    · rcases List.mem_append.1 hp with hp | hp
      · have := h.c p (List.mem_filter.1 hp).1 e; omega
      · simp at hp; subst hp; exact absurd rfl e
    · simp at hp; subst hp; dsimp only; omega
  · rw [List.filter_append, List.filter_append, List.length_append, List.length_append]
    have q1 : ([(1000 + i, n + 1 + i)] : List Pr).filter (fun p => !(p.2 == n)) = [(1000 + i, n + 1 + i)] := by simp [hn1]
    have q2 : ([(k, n)] : List Pr).filter (fun p => !(p.2 == n)) = [] := by simp
    have q3 : ((off k M).filter fun p => !(p.2 == n)) = M.filter fun p => !(p.2 == n) := by
      unfold off
      rw [List.filter_filter]
      refine List.filter_congr fun p hp => ?_
      by_cases e : p.2 = n
      · simp [e]
      · have := h.c p hp e
        have h1 : (p.1 == k) = false := by simp; omega
        have h2 : (p.2 == n) = false := by simpa using e
        rw [h1, h2]; rfl
    rw [q1, q2, q3, h.d]
    rfl
  · have h1 : (off k M).length ≤ M.length := List.length_filter_le _ _
    have := h.len
    simp only [List.length_append, List.length_singleton]
    omega
/-- a tick ahead of the time lets all stand. -/
theorem OrdI.none {n i t : Nat} {xs : List Nat} {M : List Pr} (h : OrdI n i xs M) (ht : t < n) : M.filter (fun p => p.2 == t) = [] ∧ M.filter (fun p => !(p.2 == t)) = M := by
  have hne : ∀ p ∈ M, (p.2 == t) = false := fun p hp => by
    by_cases e : p.2 = n
    · simp; omega
    · have := h.c p hp e; simp; omega
  refine ⟨?_, ?_⟩
  · rw [List.filter_eq_nil_iff]
    intro p hp
    rw [hne p hp]
    simp
  · rw [List.filter_eq_self]
    intro p hp
    rw [hne p hp]
    rfl
theorem OrdI.due {n : Nat} {xs : List Nat} {M : List Pr} (h : OrdI n xs.length xs M) : (M.filter fun p => p.2 == n).map (·.1) = wantR xs := by
  rw [h.a, List.take_length, last_want]
  simp
theorem wantR_drop (xs : List Nat) (i k : Nat) (hk : xs[i]? = some k) : wantR (xs.drop i) = if (xs.drop (i + 1)).contains k then wantR (xs.drop (i + 1)) else k :: wantR (xs.drop (i + 1)) := by
  obtain ⟨hlt, he⟩ := List.getElem?_eq_some_iff.1 hk
  rw [List.drop_eq_getElem_cons hlt, he, wantR]
/-- the law's wheel. -/
structure Ow (w W : World) (b : Nat) (now : Int) (v : Value) (M : List Pr) : Prop where
  wh : Wh W b now v (M.map tmOf)
  bel : Below w.heap.size w W
  hb : w.heap.size ≤ b
  row : ∀ k, v.ownBlock = some k → w.heap.size ≤ k
section
variable {w W W' : World} {b : Nat} {now now' : Int} {v v' : Value} {M M' : List Pr}
theorem Ow.below (h : Ow w W b now v M) (hb : Below W.heap.size W W') : Ow w W' b now v M := ⟨h.wh.below hb, h.bel.trans (hb.mono h.bel.size), h.hb, h.row⟩
theorem Ow.chg (h : Ow w W b now v M) (hc : Chg b v W v' W') (hw : Wh W' b now' v' (M'.map tmOf)) : Ow w W' b now' v' M' := by
  refine ⟨hw, h.bel.trans (hc.keep.below h.bel.size fun x hx => ?_), h.hb, fun k hk => ?_⟩
  · rcases List.mem_cons.1 hx with e | e
    · have := h.hb; omega
    · exact h.row x (by simpa using e)
  · rcases hc.row with e | e
    · exact h.row k (e ▸ hk)
    · have := e k hk; have := h.bel.size; omega
theorem Ow.set (h : Ow w W b 0 v M) {i d : Nat} (hl : M.length < 256) (hd : 1 ≤ d ∧ d ≤ 1000) :
    Calls Try.prog 9 #[.pointer (some ⟨b, 0, none⟩), .agg #[.int .i64 i, .int .i64 0, .int .i64 0, .int .i64 0, .int .i64 0, .int .i64 0], .int .i64 d] W fun e w' => e = .returned (.int .i64 0) ∧ ∃ v', Ow w w' b 0 v' (off i M ++ [(i, d)]) := by
  refine (set_ok b 0 v _ (kk i) d W h.wh (by simp; omega) (by omega) (by omega) (.inr (by simpa using hl))).mono ?_
  rintro e w' ⟨rfl, v', hw, hc⟩
  refine ⟨rfl, v', h.chg hc ?_⟩
  rw [drop_map] at hw
  have e : mkT (kk i) (0 + (d : Int)) = tmOf (i, d) := by unfold mkT kk tmOf; simp
  rw [e] at hw
  rw [List.map_append]
  exact hw
/-- a tick: the keys that are due, in memory of their own. -/
theorem Ow.tick {t : Nat} (h : Ow w W b (t : Int) v M) (hl : M.length ≤ 256) (ht : t < 1000000) :
    Calls Try.prog 11 #[.pointer (some ⟨b, 0, none⟩)] W fun e w' => ∃ u v', e = .returned u ∧ w'.ownsRow w.heap.size KT 6 u (M.filter fun p => p.2 == t + 1).length (((M.filter fun p => p.2 == t + 1).map fun p => kk p.1).flatMap encK) ∧ Ow w w' b ((t + 1 : Nat) : Int) v' (M.filter fun p => !(p.2 == t + 1)) ∧ (∀ k, u.ownBlock = some k → v'.ownBlock ≠ some k ∧ k ≠ b) ∧ Chg b v W v' w' ∧ ((M.filter fun p => !(p.2 == t + 1)) = [] → v' = .slice none 0 0) := by
  refine (tick_any b t v _ W h.wh (by simpa using hl) (by omega)).mono ?_
  rintro e w' ⟨u, v', B2, rfl, hu, hw, hc, hB1, hB2, hB3, hnil⟩
  have hcs : (t : Int) + 1 = ((t + 1 : Nat) : Int) := by omega
  rw [hcs, due_map, List.length_map, List.map_map] at hu
  rw [hcs, rest_map] at hw hnil
  refine ⟨u, v', rfl, own_base hu (by have := h.bel.size; omega), h.chg hc hw, fun k hk => ⟨fun e => ?_, fun e => ?_⟩, hc, fun e => hnil (by rw [e]; rfl)⟩
  · have h1 := (Go.Proofs.Ytbifmdepkbgnjaa.A.own_lt hu k hk).1
    have h2 := hB3 k e
    omega
  · have h1 := (Go.Proofs.Ytbifmdepkbgnjaa.A.own_lt hu k hk).1
    omega
end
end Go.Proofs.Ytbifmdepkbgnjaa.Wh

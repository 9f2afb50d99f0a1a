/- cache, the plain law: what a list of entries does. -/
import Derived.Test.YtbdcgfdchkbcnaaProg
namespace Go.Proofs.Ytbdcgfdchkbcnaa.Ca
set_option linter.unusedVariables false
set_option linter.unusedSimpArgs false

/-- an entry: cell, version, value, from. -/
abbrev Ent := Int × Int × Int × Int
def z0 : Ent := (0, 0, 0, 0)
/-- where a cell's entry stands. -/
def look (c : Int) (L : List Ent) : Option Nat := L.findIdx? fun e => e.1 == c
def Uniq (L : List Ent) : Prop := (L.map Prod.fst).Nodup
theorem look_some {c : Int} {L : List Ent} {i : Nat} (h : look c L = some i) : ∃ hi : i < L.length, L[i].1 = c ∧ ∀ j, (hj : j < i) → (L[j]'(by omega)).1 ≠ c := by
  obtain ⟨hi, h1, h2⟩ := List.findIdx?_eq_some_iff_getElem.1 h
  exact ⟨hi, by simpa using h1, fun j hj => by simpa using h2 j hj⟩
theorem look_none {c : Int} {L : List Ent} (h : look c L = none) : ∀ e ∈ L, e.1 ≠ c := fun e he => by simpa using List.findIdx?_eq_none_iff.1 h e he
theorem look_eq {c : Int} {L : List Ent} {i : Nat} (hi : i < L.length) (h1 : L[i].1 = c) (h2 : ∀ j, (hj : j < i) → (L[j]'(by omega)).1 ≠ c) : look c L = some i :=
  List.findIdx?_eq_some_iff_getElem.2 ⟨hi, by simpa using h1, fun j hj => by simpa using h2 j hj⟩
theorem look_eq_none {c : Int} {L : List Ent} (h : ∀ e ∈ L, e.1 ≠ c) : look c L = none := List.findIdx?_eq_none_iff.2 fun e he => by simpa using h e he
/-- what a put does. -/
def putL (room : Nat) (e : Ent) (L : List Ent) : List Ent × Bool :=
  match look e.1 L with
  | some i => if e.2.1 < (L.getD i z0).2.1 then (L, false) else (L.eraseIdx i ++ [e], true)
  | none => if room ≤ L.length then (L.eraseIdx 0 ++ [e], true) else (L ++ [e], true)
def putsL (room : Nat) : List Ent → List Ent → List Ent × Nat
  | [], L => (L, 0)
  | e :: es, L => let r := putsL room es (putL room e L).1; (r.1, (if (putL room e L).2 then 1 else 0) + r.2)
def peekL (c : Int) (L : List Ent) : Ent × Bool := match look c L with | some i => (L.getD i z0, true) | none => (z0, false)
def getL (c : Int) (L : List Ent) : List Ent := match look c L with | some i => L.eraseIdx i ++ [L.getD i z0] | none => L
def dropL (cs : List Int) (L : List Ent) : List Ent := L.filter fun e => !cs.contains e.1
def staleL (c v : Int) (L : List Ent) : List Ent × Bool := if (peekL c L).2 = true ∧ (peekL c L).1.2.1 < v then (dropL [c] L, decide ((L.length : Int) - (dropL [c] L).length = 1)) else (L, false)

theorem uniq_at {L : List Ent} (h : Uniq L) {i j : Nat} (hi : i < L.length) (hj : j < L.length) (e : L[i].1 = L[j].1) : i = j := by
  have hp := List.pairwise_iff_getElem.1 h
  rcases Nat.lt_trichotomy i j with hlt | rfl | hlt
  · exact absurd ((List.getElem_map ..).trans (e.trans (List.getElem_map ..).symm)) (hp i j (by simpa using hi) (by simpa using hj) hlt)
  · rfl
  · exact absurd ((List.getElem_map ..).trans (e.symm.trans (List.getElem_map ..).symm)) (hp j i (by simpa using hj) (by simpa using hi) hlt)
theorem uniq_mem {L : List Ent} (h : Uniq L) {x y : Ent} (hx : x ∈ L) (hy : y ∈ L) (e : x.1 = y.1) : x = y := by
  obtain ⟨i, hi, rfl⟩ := List.getElem_of_mem hx
  obtain ⟨j, hj, rfl⟩ := List.getElem_of_mem hy
  obtain rfl := uniq_at h hi hj e
  rfl
theorem uniq_erase {L : List Ent} (h : Uniq L) (i : Nat) : Uniq (L.eraseIdx i) := by
  exact List.Nodup.sublist ((List.eraseIdx_sublist _ _).map _) h
/-- the others, where one is taken out. -/
theorem erase_ne {L : List Ent} (h : Uniq L) {i : Nat} (hi : i < L.length) : ∀ e ∈ L.eraseIdx i, e.1 ≠ L[i].1 := by
  intro e he hc
  obtain ⟨j, hj, hji, rfl⟩ : ∃ j, ∃ hj : j < L.length, j ≠ i ∧ L[j] = e := by
    obtain ⟨j, hj, he⟩ := List.mem_eraseIdx_iff_getElem.1 he
    exact ⟨j, hj, he.1, he.2⟩
  exact hji (uniq_at h hj hi hc)
theorem uniq_push {L : List Ent} (h : Uniq L) {e : Ent} (he : ∀ x ∈ L, x.1 ≠ e.1) : Uniq (L ++ [e]) := by
  unfold Uniq at *
  rw [List.map_append, List.nodup_append]
  refine ⟨h, by simp, ?_⟩
  intro a ha b hb
  obtain ⟨x, hx, rfl⟩ := List.mem_map.1 ha
  simp at hb
  subst hb
  exact he x hx
theorem getD_at {L : List Ent} {i : Nat} (hi : i < L.length) : L.getD i z0 = L[i] := by simp [List.getD, List.getElem?_eq_getElem hi]
theorem uniq_put {room : Nat} {e : Ent} {L : List Ent} (h : Uniq L) : Uniq (putL room e L).1 := by
  unfold putL
  cases hl : look e.1 L with
  | some i =>
    obtain ⟨hi, h1, _⟩ := look_some hl
    simp only
    split
    · exact h
    · exact uniq_push (uniq_erase h i) fun x hx => by rw [← h1]; exact erase_ne h hi x hx
  | none =>
    simp only
    have hn := look_none hl
    split
    · exact uniq_push (uniq_erase h 0) fun x hx => hn x ((List.eraseIdx_sublist _ _).subset hx)
    · exact uniq_push h hn
theorem uniq_get {c : Int} {L : List Ent} (h : Uniq L) : Uniq (getL c L) := by
  unfold getL
  cases hl : look c L with
  | some i =>
    obtain ⟨hi, h1, _⟩ := look_some hl
    simp only
    rw [getD_at hi]
    exact uniq_push (uniq_erase h i) (erase_ne h hi)
  | none => exact h
theorem uniq_drop {cs : List Int} {L : List Ent} (h : Uniq L) : Uniq (dropL cs L) := List.Nodup.sublist (List.Sublist.map _ List.filter_sublist) h
theorem uniq_stale {c v : Int} {L : List Ent} (h : Uniq L) : Uniq (staleL c v L).1 := by
  unfold staleL
  split
  · exact uniq_drop h
  · exact h
theorem len_put {room : Nat} {e : Ent} {L : List Ent} (hr : 0 < room) (h : L.length ≤ room) : (putL room e L).1.length ≤ room := by
  unfold putL
  cases hl : look e.1 L with
  | some i =>
    obtain ⟨hi, _, _⟩ := look_some hl
    simp only
    split
    · exact h
    · simp [List.length_eraseIdx, hi]; omega
  | none =>
    simp only
    split
    · rw [List.length_append, List.length_eraseIdx]; simp; split <;> omega
    · simp; omega
theorem len_get {c : Int} {L : List Ent} : (getL c L).length = L.length := by
  unfold getL
  cases hl : look c L with
  | some i =>
    obtain ⟨hi, _, _⟩ := look_some hl
    simp [List.length_eraseIdx, hi]; omega
  | none => rfl
theorem len_drop {cs : List Int} {L : List Ent} : (dropL cs L).length ≤ L.length := List.length_filter_le _ _
theorem len_stale {c v : Int} {L : List Ent} : (staleL c v L).1.length ≤ L.length := by
  unfold staleL
  split
  · exact len_drop
  · exact Nat.le_refl _
/-- the entry of a cell that stands last, alone. -/
theorem look_last {c : Int} {L : List Ent} {e : Ent} (h : ∀ x ∈ L, x.1 ≠ c) (he : e.1 = c) : look c (L ++ [e]) = some L.length :=
  look_eq (by simp) (by simpa using he) fun j hj => by rw [List.getElem_append_left hj]; exact h _ (List.getElem_mem hj)
theorem peek_last {c : Int} {L : List Ent} {e : Ent} (h : ∀ x ∈ L, x.1 ≠ c) (he : e.1 = c) : peekL c (L ++ [e]) = (e, true) := by
  simp [peekL, look_last h he]
theorem peek_mem {c : Int} {L : List Ent} {y : Ent} (h : peekL c L = (y, true)) : y ∈ L ∧ y.1 = c := by
  unfold peekL at h
  cases hl : look c L with
  | some i =>
    obtain ⟨hi, h1, _⟩ := look_some hl
    rw [hl] at h
    simp only [Prod.mk.injEq, and_true] at h
    rw [getD_at hi] at h
    subst h
    exact ⟨List.getElem_mem hi, h1⟩
  | none => simp [hl] at h
theorem peek_of {L : List Ent} (h : Uniq L) {y : Ent} (hy : y ∈ L) : peekL y.1 L = (y, true) := by
  unfold peekL
  cases hl : look y.1 L with
  | some i =>
    obtain ⟨hi, h1, _⟩ := look_some hl
    simp only [getD_at hi, Prod.mk.injEq, and_true]
    exact uniq_mem h (List.getElem_mem hi) hy h1
  | none => exact absurd rfl (look_none hl y hy)
theorem peek_no {c : Int} {L : List Ent} (h : ∀ x ∈ L, x.1 ≠ c) : peekL c L = (z0, false) := by simp [peekL, look_eq_none h]
/-- behind a put: the entry is there. -/
theorem put_peek {room : Nat} {e : Ent} {L : List Ent} (h : Uniq L) : ∃ y, peekL e.1 (putL room e L).1 = (y, true) ∧ ((putL room e L).2 = true → y = e) ∧ ((putL room e L).2 = false → e.2.1 < y.2.1) := by
  unfold putL
  cases hl : look e.1 L with
  | some i =>
    obtain ⟨hi, h1, _⟩ := look_some hl
    simp only
    split
    · rename_i hlt
      refine ⟨L[i], by simp only [peekL, hl, getD_at hi], (fun h => by cases h), fun _ => ?_⟩
      rwa [getD_at hi] at hlt
    · exact ⟨e, peek_last (fun x hx => by rw [← h1]; exact erase_ne h hi x hx) rfl, (fun _ => rfl), fun h => by cases h⟩
  | none =>
    have hn := look_none hl
    simp only
    split
    · exact ⟨e, peek_last (fun x hx => hn x ((List.eraseIdx_sublist _ _).subset hx)) rfl, fun _ => rfl, fun h => by cases h⟩
    · exact ⟨e, peek_last hn rfl, fun _ => rfl, fun h => by cases h⟩
/-- no entry's version falls. -/
def Ge (L L' : List Ent) : Prop := ∀ x ∈ L, ∀ y ∈ L', y.1 = x.1 → x.2.1 ≤ y.2.1
theorem ge_sub {L L' : List Ent} (h : Uniq L) (hs : ∀ y ∈ L', y ∈ L) : Ge L L' := fun x hx y hy e => by rw [uniq_mem h (hs y hy) hx e]; exact Int.le_refl _
theorem ge_put {room : Nat} {e : Ent} {L : List Ent} (h : Uniq L) : Ge L (putL room e L).1 := by
  unfold putL
  have key : ∀ (L' : List Ent), (∀ y ∈ L', y ∈ L) → (∀ x ∈ L, x.1 = e.1 → x.2.1 ≤ e.2.1) → Ge L (L' ++ [e]) := by
    intro L' hs hv x hx y hy hc
    rcases List.mem_append.1 hy with hy | hy
    · rw [uniq_mem h (hs y hy) hx hc]; exact Int.le_refl _
    · simp at hy
      subst hy
      exact hv x hx hc.symm
  cases hl : look e.1 L with
  | some i =>
    obtain ⟨hi, h1, _⟩ := look_some hl
    simp only
    split
    · exact ge_sub h fun y hy => hy
    · rename_i hlt
      rw [getD_at hi] at hlt
      refine key _ (fun y hy => (List.eraseIdx_sublist _ _).subset hy) fun x hx hc => ?_
      rw [uniq_mem h hx (List.getElem_mem hi) (hc.trans h1.symm)]
      omega
  | none =>
    have hn := look_none hl
    simp only
    split
    · exact key _ (fun y hy => (List.eraseIdx_sublist _ _).subset hy) fun x hx hc => absurd hc (hn x hx)
    · exact key _ (fun y hy => hy) fun x hx hc => absurd hc (hn x hx)
theorem ge_get {c : Int} {L : List Ent} (h : Uniq L) : Ge L (getL c L) := by
  refine ge_sub h fun y hy => ?_
  unfold getL at hy
  cases hl : look c L with
  | some i =>
    obtain ⟨hi, _, _⟩ := look_some hl
    rw [hl] at hy
    simp only [getD_at hi] at hy
    rcases List.mem_append.1 hy with hy | hy
    · exact (List.eraseIdx_sublist _ _).subset hy
    · simp at hy; subst hy; exact List.getElem_mem hi
  | none => rw [hl] at hy; exact hy
theorem ge_drop {cs : List Int} {L : List Ent} (h : Uniq L) : Ge L (dropL cs L) := ge_sub h fun y hy => (List.mem_filter.1 hy).1
theorem ge_stale {c v : Int} {L : List Ent} (h : Uniq L) : Ge L (staleL c v L).1 := by
  unfold staleL
  split
  · exact ge_drop h
  · exact ge_sub h fun y hy => hy
theorem ge_peek {L L' : List Ent} (h : Ge L L') {x : Ent} (hx : x ∈ L) {y : Ent} (hp : peekL x.1 L' = (y, true)) : x.2.1 ≤ y.2.1 := h x hx y (peek_mem hp).1 (peek_mem hp).2
theorem stale_peek {c v : Int} {L : List Ent} {y : Ent} (hp : peekL c (staleL c v L).1 = (y, true)) : v ≤ y.2.1 := by
  unfold staleL at hp
  split at hp
  · have := peek_mem hp
    have h2 := (List.mem_filter.1 this.1).2
    rw [this.2] at h2
    simp at h2
  · rename_i h
    rw [hp] at h
    simp at h
    omega
/-- one cell is dropped. -/
theorem drop_one {c : Int} {L : List Ent} (h : Uniq L) {i : Nat} (hi : look c L = some i) : dropL [c] L = L.eraseIdx i := by
  induction L generalizing i with
  | nil => simp [look] at hi
  | cons x L ih =>
    have hU : Uniq L := (List.nodup_cons.1 h).2
    have hx : x.1 ∉ L.map Prod.fst := (List.nodup_cons.1 h).1
    by_cases hc : x.1 = c
    · have h0 : look c (x :: L) = some 0 := look_eq (by simp) (by simpa using hc) (fun j hj => absurd hj (by omega))
      rw [h0] at hi
      cases hi
      simp only [List.eraseIdx_cons_zero]
      unfold dropL
      rw [List.filter_cons_of_neg (by simp [hc])]
      rw [List.filter_eq_self]
      intro a ha
      simp only [List.contains_cons, List.contains_nil, Bool.or_false, Bool.not_eq_true', beq_eq_false_iff_ne]
      intro e
      exact hx (List.mem_map.2 ⟨a, ha, e.trans hc.symm⟩)
    · have hs : look c (x :: L) = (look c L).map (· + 1) := by
        unfold look
        rw [List.findIdx?_cons]
        simp [hc]
      rw [hs] at hi
      cases hl : look c L with
      | none => simp [hl] at hi
      | some k =>
        rw [hl] at hi
        cases hi
        rw [List.eraseIdx_cons_succ, ← ih hU hl]
        unfold dropL
        rw [List.filter_cons_of_pos (by simp [hc])]
theorem drop_none {c : Int} {L : List Ent} (hi : look c L = none) : dropL [c] L = L := by
  unfold dropL
  rw [List.filter_eq_self]
  intro a ha
  simpa using look_none hi a ha
theorem drop_cons (c : Int) (cs : List Int) (L : List Ent) : dropL (c :: cs) L = dropL cs (dropL [c] L) := by
  unfold dropL
  rw [List.filter_filter]
  refine List.filter_congr fun x _ => ?_
  simp only [List.contains_cons, List.contains_nil, Bool.or_false, Bool.not_or]
  exact Bool.and_comm _ _
theorem stale_len {c v : Int} {L : List Ent} (h : Uniq L) : (staleL c v L).2 = decide ((peekL c L).2 = true ∧ (peekL c L).1.2.1 < v) := by
  unfold staleL
  by_cases hp : (peekL c L).2 = true ∧ (peekL c L).1.2.1 < v
  · rw [if_pos hp]
    simp only [hp, and_self, decide_true, decide_eq_true_eq]
    cases hl : look c L with
    | none => simp [peekL, hl] at hp
    | some i =>
      obtain ⟨hi, _, _⟩ := look_some hl
      rw [drop_one h hl, List.length_eraseIdx, if_pos hi]
      omega
  · rw [if_neg hp]
    simp [hp]
end Go.Proofs.Ytbdcgfdchkbcnaa.Ca

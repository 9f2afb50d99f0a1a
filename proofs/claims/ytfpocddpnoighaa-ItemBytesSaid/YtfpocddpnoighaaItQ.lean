/- item: what the readers answer of what was put. -/
import Derived.Test.YtfpocddpnoighaaItP
namespace Go.Proofs.Ytfpocddpnoighaa.It
open Go.RowKit Go.Proofs.Ytfpocddpnoighaa.L Go.Proofs.Ytfpocddpnoighaa.O Go.Proofs.Ytfpocddpnoighaa.A Go.Proofs.Ytfpocddpnoighaa.R Go.Proofs.Ytfpocddpnoighaa.S Go.Proofs.Ytfpocddpnoighaa.T Go.Proofs.Ytfpocddpnoighaa.E Go.Proofs.Ytfpocddpnoighaa.Wr Go.Proofs.Ytfpocddpnoighaa.F
set_option linter.unusedVariables false
set_option linter.unusedSimpArgs false

theorem flat_at {α : Type} {enc : α → List Value} {sz : Nat} (he : ∀ x, (enc x).length = sz) {j : Nat} (hj : j < sz) : ∀ (xs : List α) (i : Nat), (xs.flatMap enc)[i * sz + j]? = (xs[i]?).bind fun x => (enc x)[j]?
  | [], i => by simp
  | x :: xs, 0 => by
    rw [List.flatMap_cons, List.getElem?_append_left (by rw [he]; omega)]
    simp
  | x :: xs, i + 1 => by
    rw [List.flatMap_cons, List.getElem?_append_right (by rw [he, Nat.succ_mul]; omega), he, show (i + 1) * sz + j - sz = i * sz + j by rw [Nat.succ_mul]; omega, flat_at he hj xs i]
    simp
theorem own_rdE {α : Type} {w : World} {base : Nat} {e : TypeId} {sz : Nat} {v : Value} {n : Nat} {enc : α → List Value} {xs : List α} (h : w.ownsRow base e sz v n (xs.flatMap enc)) (he : ∀ x, (enc x).length = sz) (hxl : xs.length = n) : ∃ A c, v = .slice A n c ∧ RdE w A n sz (xs.map enc) ∧ (∀ o, A = some o → base ≤ o.block) := by
  obtain ⟨hl, h⟩ := h
  have hlen : ∀ e ∈ xs.map enc, e.length = sz := fun e hm => by obtain ⟨a, _, rfl⟩ := List.mem_map.1 hm; exact he a
  rcases h with ⟨rfl, rfl⟩ | ⟨g, cap, cur, rfl, hb, hg, hn, hm, hs, ht⟩
  · exact ⟨none, 0, rfl, ⟨by simpa using hxl, by omega, hlen, fun h0 => absurd h0 (by omega)⟩, fun o ho => by cases ho⟩
  · refine ⟨_, cap, rfl, ⟨by simpa using hxl, by simp only [maxLen] at hm; omega, hlen, fun h0 => ⟨g, 0, rfl, fun i hi j hj => ?_⟩⟩, fun o ho => by injection ho with ho; subst ho; exact hb⟩
    have hlt : i * sz + j < n * sz := by
      have : (i + 1) * sz ≤ n * sz := Nat.mul_le_mul_right sz hi
      rw [Nat.succ_mul] at this; omega
    rw [Nat.zero_add, cell_of_row w g _ cur e _ hg]
    have hf := flat_at he hj xs i
    rw [← ht, List.getElem?_take_of_lt (by omega), Array.getElem?_toList] at hf
    rw [hf, List.getElem?_map, Option.bind_map]
    rfl
theorem tid_back (bi b : Nat) (t1 t2 t3 : Int) (h1 : -9223372036854775808 ≤ t1 ∧ t1 ≤ 9223372036854775807) (h2 : -9223372036854775808 ≤ t2 ∧ t2 ≤ 9223372036854775807) (h3 : -9223372036854775808 ≤ t3 ∧ t3 ≤ 9223372036854775807) (R : List UInt8) (w : World) (h : Rst bi b w (str (numsB [t1, t2, t3] ++ R), false)) (hs : (numsB [t1, t2, t3] ++ R).length ≤ 140737488355328) :
    Calls Try.prog 47 #[.pointer (some ⟨bi, 0, none⟩)] w fun e w' => e = .returned (.agg #[.int .i64 t1, .int .i64 t2, .int .i64 t3]) ∧ Rst bi b w' (str R, false) ∧ Keep [b] w w' := by
  obtain ⟨o, ho⟩ : ∃ o, (str (numsB [t1, t2, t3] ++ R), false) = o := ⟨_, rfl⟩
  obtain ⟨e1, e2, e3, e4⟩ := tid_app t1 t2 t3 h1 h2 h3 R o ho
  have hz : o.1.size ≤ 140737488355328 := by rw [← ho]; show (str _).size ≤ _; rw [str_size]; exact hs
  rw [ho] at h
  refine (tid_read bi b o w h.hbi h.rd h.ne hz).mono ?_
  rintro e w' ⟨he, hr, hk⟩
  rw [e1, e2, e3] at he
  rw [e4] at hr
  exact ⟨he, h.step hr hk, hk⟩
theorem items_few (bi b n : Nat) (l : List Im) (R : List UInt8) (w : World) (h : Rst bi b w (str (bigB n 2 ++ (itemsB l ++ R)), false)) (hl : l.length = n) (hn : n ≤ 16) (hg : ∀ x ∈ l, goodIm x) (hs : (bigB n 2 ++ (itemsB l ++ R)).length ≤ 140737488355328) :
    Calls Try.prog 48 #[.pointer (some ⟨bi, 0, none⟩)] w fun e w' => ∃ A c, e = .returned (.slice A n c) ∧ Ims w' A n l ∧ (∀ o, A = some o → w.heap.size ≤ o.block) ∧ Rst bi b w' (str R, false) ∧ Keep [b] w w' := by
  refine (items_read bi b _ w h (by show (str _).size ≤ _; rw [str_size]; exact hs)).mono ?_
  rintro e w' ⟨v, he, ho, hr, hk⟩
  obtain ⟨m1, m2⟩ := many_few n (itemsB l ++ R) hn
  obtain ⟨a1, a2⟩ := items_app l hg R
  rw [hl] at a1 a2
  rw [m1, m2] at ho hr
  rw [a1] at ho
  rw [a2] at hr
  obtain ⟨A, c, rfl, hrd, hA⟩ := own_rdE ho (fun _ => rfl) hl
  exact ⟨A, c, he, ⟨hrd, hg⟩, hA, hr, hk⟩
theorem items_none (bi b : Nat) (o o' : ByteArray × Bool) (w : World) (h : Rst bi b w o) (hv : manyV o = 0) (hS : manyS o = o') (hs : o.1.size ≤ 140737488355328) :
    Calls Try.prog 48 #[.pointer (some ⟨bi, 0, none⟩)] w fun e w' => ∃ A c, e = .returned (.slice A 0 c) ∧ Rst bi b w' o' ∧ Keep [b] w w' := by
  refine (items_read bi b _ w h hs).mono ?_
  rintro e w' ⟨v, he, ho, hr, hk⟩
  rw [hv, hS] at ho hr
  obtain ⟨A, c, rfl, _, _⟩ := own_rdE (xs := []) ho (fun _ => rfl) rfl
  exact ⟨A, c, he, hr, hk⟩
theorem nodes_few (bi b n : Nat) (l : List Int) (R : List UInt8) (w : World) (h : Rst bi b w (str (bigB n 2 ++ (numsB l ++ R)), false)) (hl : l.length = n) (hn : n ≤ 16) (hg : ∀ x ∈ l, -9223372036854775808 ≤ x ∧ x ≤ 9223372036854775807) (hs : (bigB n 2 ++ (numsB l ++ R)).length ≤ 140737488355328) :
    Calls Try.prog 49 #[.pointer (some ⟨bi, 0, none⟩)] w fun e w' => ∃ A c, e = .returned (.slice A n c) ∧ Rd w' A n (l.map (Value.int .i64)) ∧ Rst bi b w' (str R, false) ∧ Keep [b] w w' := by
  refine (nodes_read bi b _ w h (by show (str _).size ≤ _; rw [str_size]; exact hs)).mono ?_
  rintro e w' ⟨v, he, ho, hr, hk⟩
  obtain ⟨m1, m2⟩ := many_few n (numsB l ++ R) hn
  obtain ⟨a1, a2⟩ := nodes_app l hg R
  rw [hl] at a1 a2
  rw [m1, m2] at ho hr
  rw [a1] at ho
  rw [a2] at hr
  obtain ⟨A, c, rfl, hrd, _⟩ := own_rd ho
  exact ⟨A, c, he, hrd, hr, hk⟩
theorem nodes_none (bi b : Nat) (o o' : ByteArray × Bool) (w : World) (h : Rst bi b w o) (hv : manyV o = 0) (hS : manyS o = o') (hs : o.1.size ≤ 140737488355328) :
    Calls Try.prog 49 #[.pointer (some ⟨bi, 0, none⟩)] w fun e w' => ∃ A c, e = .returned (.slice A 0 c) ∧ Rst bi b w' o' ∧ Keep [b] w w' := by
  refine (nodes_read bi b _ w h hs).mono ?_
  rintro e w' ⟨v, he, ho, hr, hk⟩
  rw [hv, hS] at ho hr
  obtain ⟨A, c, rfl, _, _⟩ := own_rd (xs := []) ho
  exact ⟨A, c, he, hr, hk⟩
/-- a contract, said since w0, whose writer's blocks are S or new. -/
theorem acc3 {w0 w : World} {b : Nat} {S : List Nat} {bs bs' : List UInt8} {bad bad' : Bool} {fn : FuncId} {args : Array Value} {E : Ending → Prop} (h : Wrs w0 b S bs bad w)
    (c : ∀ r, Wr w b r bs bad → (∀ k ∈ blks b r, k ∈ S ∨ w0.heap.size ≤ k) → Calls Try.prog fn args w fun e w' => E e ∧ Wrs w b (blks b r) bs' bad' w') : Calls Try.prog fn args w fun e w' => E e ∧ Wrs w0 b S bs' bad' w' := by
  obtain ⟨r, h1, h2⟩ := h.out
  refine (c r h1 fun k hk => ?_).mono fun e w' ⟨he, hw⟩ => ⟨he, Wrs.step h.keep h.own h2 hw⟩
  rcases mem_blks.1 hk with rfl | hk
  · exact h.own
  · exact h2 k hk
end Go.Proofs.Ytfpocddpnoighaa.It

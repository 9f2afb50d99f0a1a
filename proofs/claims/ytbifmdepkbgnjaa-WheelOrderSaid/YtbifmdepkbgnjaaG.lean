/- owned rows of elements of several cells: cells are set, the row is cut, an element is read. -/
import Derived.Test.YtbifmdepkbgnjaaC
import Derived.Test.YtbifmdepkbgnjaaE
namespace Go.Proofs.Ytbifmdepkbgnjaa.G
open Go.RowKit Go.Proofs.Ytbifmdepkbgnjaa.L Go.Proofs.Ytbifmdepkbgnjaa.S Go.Proofs.Ytbifmdepkbgnjaa.A Go.Proofs.Ytbifmdepkbgnjaa.T Go.Proofs.Ytbifmdepkbgnjaa.E
set_option linter.unusedVariables false
set_option linter.unusedSimpArgs false

/-- cells of an owned row are set. -/
theorem own_put {w : World} {base : Nat} {e : TypeId} {size n g cap : Nat} {xs : List Value} (o : Nat) (v : Value) (h : w.ownsRow base e size (.slice (some ⟨g, 0, none⟩) n cap) n xs) (ho : o < n * size) :
    (w.setCell ⟨g, o, none⟩ v).ownsRow base e size (.slice (some ⟨g, 0, none⟩) n cap) n (xs.set o v) ∧ Keep [g] w (w.setCell ⟨g, o, none⟩ v) := by
  obtain ⟨hl, h⟩ := h
  rcases h with ⟨hv, _⟩ | ⟨g', cap', cur, hv, hb, hg, hn, hm, hs, ht⟩
  · cases hv
  · injection hv with h1 h2 h3
    injection h1 with h1
    injection h1 with h1 _
    subst h1
    subst h3
    refine ⟨⟨by simpa using hl, .inr ⟨g, cap, cur.setIfInBounds o v, rfl, hb, Go.Proofs.Ytbifmdepkbgnjaa.L.heap_setCell_at w g o cur e _ v hg, hn, hm, by simpa using hs, ?_⟩⟩, (Keep.refl _ _).setCell (p := ⟨g, o, none⟩) (.inl (by simp)) _⟩
    rw [← ht, Array.toList_setIfInBounds, List.take_set]
theorem own_puts {base : Nat} {e : TypeId} {size n g cap : Nat} : ∀ (vs : List Value) (o : Nat) (w : World) (xs : List Value), w.ownsRow base e size (.slice (some ⟨g, 0, none⟩) n cap) n xs → o + vs.length ≤ n * size →
    (w.setCells g o vs).ownsRow base e size (.slice (some ⟨g, 0, none⟩) n cap) n (xs.take o ++ vs ++ xs.drop (o + vs.length)) ∧ Keep [g] w (w.setCells g o vs)
  | [], o, w, xs, h, ho => ⟨by simpa [World.setCells] using h, Keep.refl _ _⟩
  | v :: vs, o, w, xs, h, ho => by
    simp only [List.length_cons] at ho
    obtain ⟨h1, k1⟩ := own_put o v h (by omega)
    obtain ⟨h2, k2⟩ := own_puts vs (o + 1) (w.setCell ⟨g, o, none⟩ v) _ h1 (by omega)
    refine ⟨?_, k1.trans k2⟩
    have hxl : xs.length = n * size := h.1
    have e1 : (xs.set o v).take (o + 1) = xs.take o ++ [v] := by
      rw [List.take_set, List.take_add_one, List.set_append_right _ _ (by simp; omega)]
      rw [List.length_take, Nat.min_eq_left (by omega), Nat.sub_self, List.getElem?_eq_getElem (by omega)]
      rfl
    have e2 : (xs.set o v).drop (o + 1 + vs.length) = xs.drop (o + (v :: vs).length) := by
      rw [List.drop_set_of_lt (by omega), List.length_cons]
      congr 1
      omega
    rw [e1, e2] at h2
    simpa [World.setCells] using h2
theorem own_cut {w : World} {base : Nat} {e : TypeId} {size n g cap : Nat} {xs : List Value} (h : w.ownsRow base e size (.slice (some ⟨g, 0, none⟩) n cap) n xs) (m : Nat) (hm' : m ≤ n) : w.ownsRow base e size (.slice (some ⟨g, 0, none⟩) m cap) m (xs.take (m * size)) := by
  obtain ⟨hl, h⟩ := h
  have hms : m * size ≤ n * size := Nat.mul_le_mul_right _ hm'
  rcases h with ⟨hv, _⟩ | ⟨g', cap', cur, hv, hb, hg, hn, hm, hs, ht⟩
  · cases hv
  · injection hv with h1 h2 h3
    injection h1 with h1
    injection h1 with h1 _
    subst h1
    subst h3
    refine ⟨by rw [List.length_take]; omega, .inr ⟨g, cap, cur, rfl, hb, hg, by omega, hm, hs, ?_⟩⟩
    rw [← ht, List.take_take, Nat.min_eq_left hms]
/-- an owned row that isn't nil: its block. -/
theorem own_some {w : World} {base : Nat} {e : TypeId} {size n n' g cap : Nat} {xs : List Value} (h : w.ownsRow base e size (.slice (some ⟨g, 0, none⟩) n' cap) n xs) : n' = n ∧ base ≤ g ∧ g < w.heap.size ∧ n ≤ cap ∧ cap ≤ 9223372036854775807 ∧
    (∀ j, j < cap * size → (w.cell? ⟨g, j, none⟩).isSome = true ∧ w.frozen? ⟨g, j, none⟩ = false) ∧ ∀ j u, xs[j]? = some u → w.cell? ⟨g, j, none⟩ = some u := by
  obtain ⟨hl, h⟩ := h
  rcases h with ⟨hv, _⟩ | ⟨g', cap', cur, hv, hb, hg, hn, hm, hs, ht⟩
  · cases hv
  · injection hv with h1 h2 h3
    injection h1 with h1
    injection h1 with h1 _
    subst h1
    subst h3
    refine ⟨h2, hb, (Array.getElem?_eq_some_iff.1 hg).1, hn, hm, fun j hj => ⟨?_, ?_⟩, fun j u hu => ?_⟩
    · rw [cell_of_row w g j cur e _ hg, Array.getElem?_eq_getElem (by omega)]; rfl
    · exact frozen_of_row w g j cur e hg
    · have hlt : j < n * size := by have := (List.getElem?_eq_some_iff.1 hu).1; omega
      rw [cell_of_row w g j cur e _ hg, ← hu, ← ht, List.getElem?_take_of_lt hlt, Array.getElem?_toList]
theorem flat_at {α : Type} {enc : α → List Value} {sz : Nat} (he : ∀ x, (enc x).length = sz) {j : Nat} (hj : j < sz) : ∀ (xs : List α) (i : Nat), (xs.flatMap enc)[i * sz + j]? = (xs[i]?).bind fun x => (enc x)[j]?
  | [], i => by simp
  | x :: xs, 0 => by
    rw [List.flatMap_cons, List.getElem?_append_left (by rw [he]; omega)]
    simp
  | x :: xs, i + 1 => by
    rw [List.flatMap_cons, List.getElem?_append_right (by rw [he, Nat.succ_mul]; omega), he, show (i + 1) * sz + j - sz = i * sz + j by rw [Nat.succ_mul]; omega, flat_at he hj xs i]
    simp
theorem flat_len {α : Type} {enc : α → List Value} {sz : Nat} (he : ∀ x, (enc x).length = sz) : ∀ xs : List α, (xs.flatMap enc).length = xs.length * sz
  | [] => by simp
  | x :: xs => by rw [List.flatMap_cons, List.length_append, he, flat_len he xs, List.length_cons, Nat.succ_mul, Nat.add_comm]
theorem flat_take {α : Type} {enc : α → List Value} {sz : Nat} (he : ∀ x, (enc x).length = sz) : ∀ (xs : List α) (i : Nat), (xs.flatMap enc).take (i * sz) = (xs.take i).flatMap enc
  | [], i => by simp
  | x :: xs, 0 => by simp
  | x :: xs, i + 1 => by
    rw [List.flatMap_cons, List.take_succ_cons, List.flatMap_cons, List.take_append, he, List.take_of_length_le (by rw [he, Nat.succ_mul]; omega), show (i + 1) * sz - sz = i * sz by rw [Nat.succ_mul]; omega, flat_take he xs i]
theorem flat_drop {α : Type} {enc : α → List Value} {sz : Nat} (he : ∀ x, (enc x).length = sz) : ∀ (xs : List α) (i : Nat), (xs.flatMap enc).drop (i * sz) = (xs.drop i).flatMap enc
  | [], i => by simp
  | x :: xs, 0 => by simp
  | x :: xs, i + 1 => by
    rw [List.flatMap_cons, List.drop_succ_cons, List.drop_append, he, List.drop_eq_nil_of_le (by rw [he, Nat.succ_mul]; omega), show (i + 1) * sz - sz = i * sz by rw [Nat.succ_mul]; omega, flat_drop he xs i, List.nil_append]
theorem own_rdE {α : Type} {w : World} {base : Nat} {e : TypeId} {sz : Nat} {v : Value} {n : Nat} {enc : α → List Value} {xs : List α} (h : w.ownsRow base e sz v n (xs.flatMap enc)) (he : ∀ x, (enc x).length = sz) (hxl : xs.length = n) : ∃ A c, v = .slice A n c ∧ RdE w A n sz (xs.map enc) ∧ (∀ o, A = some o → base ≤ o.block) ∧ (A = none → n = 0 ∧ c = 0) := by
  obtain ⟨hl, h⟩ := h
  have hlen : ∀ e ∈ xs.map enc, e.length = sz := fun e hm => by obtain ⟨a, _, rfl⟩ := List.mem_map.1 hm; exact he a
  rcases h with ⟨rfl, rfl⟩ | ⟨g, cap, cur, rfl, hb, hg, hn, hm, hs, ht⟩
  · exact ⟨none, 0, rfl, ⟨by simpa using hxl, by omega, hlen, fun h0 => absurd h0 (by omega)⟩, (fun o ho => by cases ho), fun _ => ⟨rfl, rfl⟩⟩
  · refine ⟨_, cap, rfl, ⟨by simpa using hxl, by simp only [maxLen] at hm; omega, hlen, fun h0 => ⟨g, 0, rfl, fun i hi j hj => ?_⟩⟩, (fun o ho => by injection ho with ho; subst ho; exact hb), fun h => by cases h⟩
    have hlt : i * sz + j < n * sz := by
      have : (i + 1) * sz ≤ n * sz := Nat.mul_le_mul_right sz hi
      rw [Nat.succ_mul] at this; omega
    rw [Nat.zero_add, cell_of_row w g _ cur e _ hg]
    have hf := flat_at he hj xs i
    rw [← ht, List.getElem?_take_of_lt (by omega), Array.getElem?_toList] at hf
    rw [hf, List.getElem?_map, Option.bind_map]
    rfl
end Go.Proofs.Ytbifmdepkbgnjaa.G

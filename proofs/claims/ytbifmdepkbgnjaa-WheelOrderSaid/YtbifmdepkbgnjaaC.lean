/- clear(s) at elements of several cells. -/
import Derived.Test.YtbifmdepkbgnjaaT
import Derived.Lib.SliceRun
namespace Go.Proofs.Ytbifmdepkbgnjaa.C
open Go.RowKit Go.Proofs.Ytbifmdepkbgnjaa.L Go.Proofs.Ytbifmdepkbgnjaa.S Go.Proofs.Ytbifmdepkbgnjaa.T
set_option linter.unusedVariables false
set_option linter.unusedSimpArgs false
variable {P : Program}

theorem len_zeros (zs : Array Value) (n : Nat) : (Builtin.zeroCells zs n).toList.length = n * zs.size := by simp [Builtin.zeroCells]
theorem zeros_one (zs : Array Value) (n : Nat) (hz : 0 < zs.size) (h1 : ∀ v ∈ zs.toList, v.oneCell' = true) : ∀ v ∈ (Builtin.zeroCells zs n).toList, v.oneCell' = true := by
  intro v hv
  simp only [Builtin.zeroCells, Array.toList_map, List.mem_map] at hv
  obtain ⟨i, _, rfl⟩ := hv
  have hlt : i % zs.size < zs.size := Nat.mod_lt _ hz
  rw [getElem!_pos zs _ hlt]
  exact h1 _ (by simp)
/-- n elements of any size are cleared. -/
theorem run_clear_cells (w : World) (t e ty : TypeId) (z : Value) (sz : Nat) (ht : P.underlying t = some (.slice e)) (hv : ∀ w, (zeroValue e).run P w = .ok z w) (hs : z.cells.size = sz) (hz : 0 < sz) (h1 : ∀ v ∈ z.cells.toList, v.oneCell' = true) (b o n c : Nat) (hn : 0 < n)
    (hc : ∀ j, j < n * sz → (w.cell? ⟨b, o + j, none⟩).isSome = true) (hf : ∀ j, j < n * sz → w.frozen? ⟨b, o + j, none⟩ = false) :
    (Builtin.clear_ #[t] ty #[.slice (some ⟨b, o, none⟩) n c]).run P w = .ok (.tuple #[]) (w.setCells b o (Builtin.zeroCells z.cells n).toList) := by
  have hst := run_storeCells_cells (P := P) b o (Builtin.zeroCells z.cells n).toList 0 w (by rw [len_zeros, hs]; simpa using hc) (by rw [len_zeros, hs]; simpa using hf) (zeros_one _ _ (by omega) h1)
  simp only [Nat.add_zero] at hst
  obtain ⟨m, rfl⟩ : ∃ m, n = m + 1 := ⟨n - 1, by omega⟩
  simp [Builtin.clear_, run_underlying ht, hv, hst]
/-- cells of an owned row's block, behind its length, are set: it is owned still. -/
theorem own_set {w : World} {base : Nat} {e : TypeId} {size n g cap : Nat} {xs : List Value} (o : Nat) (v : Value) (h : w.ownsRow base e size (.slice (some ⟨g, 0, none⟩) n cap) n xs) (ho : n * size ≤ o) :
    (w.setCell ⟨g, o, none⟩ v).ownsRow base e size (.slice (some ⟨g, 0, none⟩) n cap) n xs ∧ Keep [g] w (w.setCell ⟨g, o, none⟩ v) := by
  obtain ⟨hl, h⟩ := h
  rcases h with ⟨hv, _⟩ | ⟨g', cap', cur, hv, hb, hg, hn, hm, hs, ht⟩
  · cases hv
  · injection hv with h1 h2 h3
    injection h1 with h1
    injection h1 with h1 _
    subst h1
    subst h3
    refine ⟨⟨hl, .inr ⟨g, cap, cur.setIfInBounds o v, rfl, hb, Go.Proofs.Ytbifmdepkbgnjaa.L.heap_setCell_at w g o cur e _ v hg, hn, hm, by simpa using hs, ?_⟩⟩, (Keep.refl _ _).setCell (p := ⟨g, o, none⟩) (.inl (by simp)) _⟩
    rw [← ht, Array.toList_setIfInBounds, List.take_set_of_le ho]
theorem own_sets {base : Nat} {e : TypeId} {size n g cap : Nat} {xs : List Value} : ∀ (vs : List Value) (o : Nat) (w : World), w.ownsRow base e size (.slice (some ⟨g, 0, none⟩) n cap) n xs → n * size ≤ o →
    (w.setCells g o vs).ownsRow base e size (.slice (some ⟨g, 0, none⟩) n cap) n xs ∧ Keep [g] w (w.setCells g o vs)
  | [], o, w, h, ho => ⟨h, Keep.refl _ _⟩
  | v :: vs, o, w, h, ho => by
    obtain ⟨h1, k1⟩ := own_set o v h ho
    obtain ⟨h2, k2⟩ := own_sets vs (o + 1) (w.setCell ⟨g, o, none⟩ v) h1 (by omega)
    exact ⟨h2, k1.trans k2⟩
end Go.Proofs.Ytbifmdepkbgnjaa.C

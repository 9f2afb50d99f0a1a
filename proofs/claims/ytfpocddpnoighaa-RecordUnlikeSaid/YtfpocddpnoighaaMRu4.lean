/- a region that draws its order: reads, and one write at its end. -/
import Derived.StillTailTactics
import Derived.Test.YtfpocddpnoighaaMRu0
import Derived.Test.YtfpocddpnoighaaMRu3
namespace Go.Proofs.Ytfpocddpnoighaa.T
open Go.RowKit Go.Proofs.Ytfpocddpnoighaa.L
set_option linter.unusedVariables false
set_option linter.unusedSimpArgs false

theorem region_tail {P : Program} {l : List Oper} {id : Nat} {Q : Exit → Act → World → Prop} {a : Act} {w : World} (n : Nat) (hm : P.follows .mixedOrders = true) (hB : Region.lexTailB .any l.toArray n = true)
    (h : ∀ w1 : World, w1.heap.size = w.heap.size → Below w.heap.size w w1 → wpStill P l.toArray w1 (fun a' => wpList P l.toArray Q (l.drop n) a' w1) (l.take n) a) : (Code.region id l.toArray true).wp P Q a w :=
  wp_region_still_tail n hm hB (h _ rfl ⟨rfl, rfl, rfl, Nat.le_refl _, fun _ _ => rfl⟩)
theorem cell_below {w w1 : World} (hb : Below w.heap.size w w1) {p : Addr} {v : Value} (h : w.cell? p = some v) : w1.cell? p = some v := (hb.cell (World.block_lt_of_cell? w _ h)).trans h
theorem cell_alloc (w : World) (cs : Array Value) (t : TypeId) (j : Nat) : (w.alloc (.cells cs t)).cell? ⟨w.heap.size, j, none⟩ = cs[j]? := cell_of_row _ _ _ _ _ _ (heap_alloc_new w _)
theorem below_alloc (w : World) (o : Obj) : Below w.heap.size w (w.alloc o) := (Below.refl _ _).alloc (Nat.le_refl _) o
theorem below_drewN (n : Nat) (w : World) : Below w.heap.size w (w.drewN n) := by
  induction n with
  | zero => exact Below.refl _ _
  | succ n ih => exact ih.drew
theorem at_alloc (w : World) (o : Obj) (k : Nat) : (w.alloc o).heap[k]? = if k = w.heap.size then some o else w.heap[k]? := by
  by_cases h : k = w.heap.size
  · subst h; rw [heap_alloc_new, if_pos rfl]
  · simp only [h, if_false]
    by_cases hk : k < w.heap.size
    · exact heap_alloc_old _ _ hk
    · rw [Array.getElem?_eq_none (by simp; omega), Array.getElem?_eq_none (by omega)]
theorem keep_cell {w w1 : World} {S : List Nat} (hk : Keep S w w1) {p : Addr} {v : Value} (h : w.cell? p = some v) (hs : p.block ∉ S) : w1.cell? p = some v := (hk.cell (World.block_lt_of_cell? w _ h) hs).trans h
theorem rd_block {w : World} {n : Nat} {xs : List Value} {g : Nat} {t : TypeId} {fr : Nat × Nat} (h : w.heap[g]? = some (.cells xs.toArray t fr)) (hn : xs.length = n) (hm : n ≤ 9223372036854775807) : Rd w (some ⟨g, 0, none⟩) n xs :=
  ⟨hn, hm, fun _ => ⟨_, _, rfl, fun j hj => by rw [Nat.zero_add, cell_of_row _ _ _ _ _ _ h]; simp⟩⟩
end Go.Proofs.Ytfpocddpnoighaa.T

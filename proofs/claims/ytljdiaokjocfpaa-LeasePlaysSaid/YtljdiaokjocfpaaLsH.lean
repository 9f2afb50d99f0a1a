/- New; the document's example; LeaseNone. -/
import Derived.Test.YtljdiaokjocfpaaLsG
namespace Go.Proofs.Ytljdiaokjocfpaa.Ls
open Go.RowKit Go.Proofs.Ytljdiaokjocfpaa.L Go.Proofs.Ytljdiaokjocfpaa.A Go.Proofs.Ytljdiaokjocfpaa.R Go.Proofs.Ytljdiaokjocfpaa.S Go.Proofs.Ytljdiaokjocfpaa.T
set_option linter.unusedVariables false
set_option linter.unusedSimpArgs false

theorem made_zero (n : Nat) : madeCells (Value.agg #[.int .i64 0, .int .i64 0, .int .i64 0, .int .i64 0, .bool false]).cells (n * 5) = (encAll (List.replicate n zeroS)).toArray := by
  apply Array.ext'
  apply List.ext_getElem?
  intro i
  by_cases hi : i < n * 5
  · have e : i = i / 5 * 5 + i % 5 := by omega
    have h5 : i % 5 < 5 := Nat.mod_lt _ (by omega)
    have hd : i / 5 < (List.replicate n zeroS).length := by simp; omega
    have h1 := encAll_at (List.replicate n zeroS) (i / 5) (i % 5) hd h5
    rw [← e] at h1
    show _ = (encAll (List.replicate n zeroS))[i]?
    rw [h1]
    simp only [madeCells, Array.toList_map, List.getElem?_map, Array.toList_range, List.getElem?_range hi, Option.map_some, List.getElem_replicate]
    have hz : ∀ j, j < 5 → some ((Value.agg #[.int .i64 0, .int .i64 0, .int .i64 0, .int .i64 0, .bool false]).cells[j]!) = zeroS.enc[j]? := by
      intro j hj
      rcases (by omega : j = 0 ∨ j = 1 ∨ j = 2 ∨ j = 3 ∨ j = 4) with rfl | rfl | rfl | rfl | rfl <;> rfl
    exact hz _ h5
  · rw [List.getElem?_eq_none (by simp [madeCells]; omega), List.getElem?_eq_none (by show (encAll _).length ≤ i; rw [encAll_len]; simp; omega)]
theorem slot_info : (Try.prog.info? 91).map (fun i => (i.zero, i.size, i.bytes)) = some (some (.agg #[.int .i64 0, .int .i64 0, .int .i64 0, .int .i64 0, .bool false]), 5, 40) := by kernel_rfl
theorem run_made (n : Nat) (h : n ≤ 16) (w : World) : (Instr.makeSlice 87 (.int .i64 n) (.int .i64 n)).run Try.prog w = .ok (.slice (some ⟨w.heap.size, 0, none⟩) n n) (w.alloc (.cells (encAll (List.replicate n zeroS)).toArray 91)) := by
  obtain ⟨i0, hi, hz0, hz1, hz2⟩ := info_parts slot_info
  have := run_make (P := Try.prog) w 87 91 i0 _ (by kernel_rfl) hi hz0 .i64 .i64 (n : Int) (n : Int) (by omega) (by omega) (by rw [hz2]; omega) (by omega)
  rw [hz1, Int.toNat_natCast, made_zero] at this
  exact this
theorem new_bad (n : Int) (w : World) (h : n < 1 ∨ 16 < n) : Calls Try.prog 28 #[.int .i64 n] w fun e w' => e = .returned (.tuple #[.pointer none, .int .i64 1]) ∧ w = w' := by
  rcases h with h | h
  · go_enter Try.func28, Try.ntmps28
    go_wp2
    go_ret2
    exact ⟨rfl, rfl⟩
  · have h2 : ¬ n < 1 := by omega
    go_enter Try.func28, Try.ntmps28
    go_wp2
    go_ret2
    exact ⟨rfl, rfl⟩
theorem new_any (n : Nat) (w : World) (h1 : 1 ≤ n) (h2 : n ≤ 16) : Calls Try.prog 28 #[.int .i64 n] w fun e w' => e = .returned (.tuple #[.pointer (some ⟨w.heap.size + 1, 0, none⟩), .int .i64 0]) ∧ LT w w' (w.heap.size + 1) w.heap.size (List.replicate n zeroS) := by
  have hmk := run_made n h2
  have HM := Lib.hid hmk
  go_enter Try.func28, Try.ntmps28
  go_wp2
  go_ret2
  refine ⟨rfl, ⟨?_, ?_, by simpa using ⟨h1, h2⟩⟩, below2 (below_alloc _ _) (below_alloc _ _), Nat.le_refl _⟩
  · have := heap_alloc_new (w.alloc (.cells (encAll (List.replicate n zeroS)).toArray 91)) (.cells #[.slice (some ⟨w.heap.size, 0, none⟩) n n] 89)
    simpa using this
  · rw [heap_alloc_old _ _ (by simp)]; exact heap_alloc_new _ _
def ss0 : List Slt := [zeroS, zeroS, zeroS, zeroS]
def ss1 : List Slt := [zeroS, ⟨0, 0, 1, 5, true⟩, ⟨0, 0, 1, 5, true⟩, zeroS]
set_option maxHeartbeats 1000000 in
set_option maxRecDepth 100000 in
theorem awake_any (w : World) : Calls Try.prog 27 #[] w fun e w' => e = .returned (.bool true) ∧ Below w.heap.size w w' := by
  go_enter Try.func27, Try.ntmps27
  go_wp2_with fail
  refine (new_any 4 w (by omega) (by omega)).mono ?_
  rintro e w1 ⟨rfl, h1⟩
  go_wp2_with fail
  obtain ⟨W1, hW1⟩ : ∃ W, Hid (((w1.alloc (.cells #[.int .i64 0, .int .i64 0, .int .i64 1] 55)).alloc (.cells #[.int .i64 0, .int .i64 0, .int .i64 2] 55)).alloc (.cells #[.int .i64 1, .int .i64 2] 3) = W) := ⟨_, Lib.hid rfl⟩
  rw [hW1.out]
  have hsw := h1.tab.lt
  have l1 := h1.below (w1 := W1) (by rw [← hW1.out]; exact below2 (below2 (below_alloc _ _) (below_alloc _ _)) (below_alloc _ _))
  have r1 : W1.heap[w1.heap.size + 1 + 1]? = some (.cells #[.int .i64 1, .int .i64 2] 3) := by rw [← hW1.out, at_alloc, if_pos (by simp)]
  have b1 : W1.heap[w1.heap.size + 1]? = some (.cells #[.int .i64 0, .int .i64 0, .int .i64 2] 55) := by rw [← hW1.out, at_alloc, if_neg (by simp), at_alloc, if_pos (by simp)]
  refine (lt_hold l1 0 0 1 5 _ 2 2 [1, 2] (rd_block (xs := [.int .i64 1, .int .i64 2]) r1 rfl (by omega)) (by rintro _ o ⟨⟩; simp; omega) 0 ss1 (by kernel_rfl) (by kernel_rfl)).mono ?_
  rintro e w2 ⟨rfl, l2, k2⟩
  have b2 := keep_block k2 b1 (by simp; omega)
  have t0 : w2.cell? ⟨w1.heap.size + 1, 0, none⟩ = some (.int .i64 0) := by rw [cell_of_row _ _ _ _ _ _ b2]; rfl
  have t1 : w2.cell? ⟨w1.heap.size + 1, 1, none⟩ = some (.int .i64 0) := by rw [cell_of_row _ _ _ _ _ _ b2]; rfl
  have t2 : w2.cell? ⟨w1.heap.size + 1, 2, none⟩ = some (.int .i64 2) := by rw [cell_of_row _ _ _ _ _ _ b2]; rfl
  have L2 := Lib.hid l2
  clear h1 hW1 l1 r1 b1 k2 b2 l2
  go_wp2_with fail
  refine (lt_hold (L2.out.below (below_alloc _ _)) 0 0 2 9 _ 1 1 [2] (rd_block (xs := [.int .i64 2]) (heap_alloc_new _ _) rfl (by omega)) (by rintro _ o ⟨⟩; have := L2.out.tab.lt.2; simp; omega) 12 ss1 (by kernel_rfl) (by kernel_rfl)).mono ?_
  rintro e w3 ⟨rfl, l3, _⟩
  clear t0 t1 t2 L2
  have L3 := Lib.hid l3
  clear l3
  go_wp2_with fail
  refine (lt_expire L3.out 5 [1, 2] ss0 (by kernel_rfl) (by kernel_rfl)).mono ?_
  rintro e w4 ⟨A, c, rfl, r4, l4, _⟩
  have R4 := Lib.hid (r4.below (below_alloc w4 (.cells #[.int .i64 1, .int .i64 2] 3)))
  have L4 := Lib.hid l4
  clear r4 l4 L3
  go_wp2_with fail
  refine (same_any A _ 2 c 2 2 (toI [1, 2]) [1, 2] _ R4.out (rd_block (xs := [.int .i64 1, .int .i64 2]) (heap_alloc_new _ _) rfl (by omega)) true (by kernel_rfl)).mono ?_
  rintro e w5 ⟨rfl, hb5⟩
  go_wp2
  go_ret
  exact ⟨rfl, below2 (below2 L4.out.low (below_alloc _ _)) hb5⟩
set_option maxHeartbeats 1000000 in
set_option maxRecDepth 100000 in
theorem none_walk (w : World) (a b c n : Int) : Calls Try.prog 12 #[.agg #[.int .i64 a, .int .i64 b, .int .i64 c], .int .i64 n] w fun e w' => e = .returned (.bool true) ∧ Below w.heap.size w w' := by
  obtain ⟨W, hW⟩ : ∃ W, Hid (w.alloc (.cells #[.int .i64 a, .int .i64 b, .int .i64 c] 55) = W) := ⟨_, Lib.hid rfl⟩
  have hWb := Lib.hid (below_alloc w (.cells #[.int .i64 a, .int .i64 b, .int .i64 c] 55))
  rw [hW.out] at hWb
  have y : ∀ j, W.cell? ⟨w.heap.size, j, none⟩ = (#[.int .i64 a, .int .i64 b, .int .i64 c] : Array Value)[j]? := fun j => by rw [← hW.out]; exact cell_alloc _ _ _ j
  have x0 : W.cell? ⟨w.heap.size, 0, none⟩ = some (.int .i64 a) := y 0
  have x1 : W.cell? ⟨w.heap.size, 1, none⟩ = some (.int .i64 b) := y 1
  have x2 : W.cell? ⟨w.heap.size, 2, none⟩ = some (.int .i64 c) := y 2
  have hq : ∀ w, (Op.equalIn 10000 58 (.agg #[.int .i64 0, .int .i64 0, .int .i64 0, .int .i64 0]) (.agg #[.int .i64 0, .int .i64 0, .int .i64 0, .int .i64 0])).run Try.prog w = .ok true w := fun w => hold_eq 0 0 0 0 0 0 0 0 w
  have hm := hold_guard
  clear y
  go_enter Try.func12, Try.ntmps12
  go_wp2_with fail
  rw [hW.out]
  refine (awake_any W).mono ?_
  rintro e w1 ⟨rfl, hb1⟩
  have y0 := cell_below hb1 x0
  have y1 := cell_below hb1 x1
  have y2 := cell_below hb1 x2
  clear x0 x1 x2
  go_wp2_with fail
  refine (of_nil n w1).mono ?_
  rintro e w2 ⟨rfl, hb2⟩
  have x0 := cell_below hb2 y0
  have x1 := cell_below hb2 y1
  have x2 := cell_below hb2 y2
  have hl := World.block_lt_of_cell? _ _ x0
  clear y0 y1 y2
  go_wp2_with fail
  obtain ⟨W2, hW2⟩ : ∃ W, Hid (w2.alloc (.cells #[.int .i64 0, .int .i64 0, .int .i64 0, .int .i64 0] 58) = W) := ⟨_, Lib.hid rfl⟩
  rw [hW2.out]
  have hb3 := below_alloc w2 (.cells #[.int .i64 0, .int .i64 0, .int .i64 0, .int .i64 0] 58)
  rw [hW2.out] at hb3
  have z : W2.heap[w2.heap.size]? = some (.cells #[.int .i64 0, .int .i64 0, .int .i64 0, .int .i64 0] 58) := by rw [← hW2.out]; exact heap_alloc_new _ _
  refine (hold_nil a b c n none 0 0 W2).mono ?_
  rintro e w3 ⟨rfl, hb4⟩
  have hb5 := below2 hb3 hb4
  have y0 := cell_below hb5 x0
  have y1 := cell_below hb5 x1
  have y2 := cell_below hb5 x2
  have z3 := keep_block (Keep.of_below (S := []) hb4) z (by simp)
  have H1 := Lib.hid (below2 (below2 (below2 hWb.out hb1) hb2) hb5)
  clear x0 x1 x2 z hb5 hb4 hb3 hb2 hb1 hl
  go_wp2_with fail
  refine (free_nil a b c w3).mono ?_
  rintro e w4 ⟨rfl, hb4⟩
  have z4 := keep_block (Keep.of_below (S := []) hb4) z3 (by simp)
  have x0 := cell_below hb4 y0
  have x1 := cell_below hb4 y1
  have x2 := cell_below hb4 y2
  clear y0 y1 y2 z3
  go_wp2_with fail
  refine (expire_nil n w4).mono ?_
  rintro e w5 ⟨rfl, hb5⟩
  have z5 := keep_block (Keep.of_below (S := []) hb5) z4 (by simp)
  have y0 := cell_below hb5 x0
  have y1 := cell_below hb5 x1
  have y2 := cell_below hb5 x2
  have k0 : w5.cell? ⟨w2.heap.size, 0, none⟩ = some (.int .i64 0) := by rw [cell_of_row _ _ 0 _ _ _ z5]; rfl
  have k1 : w5.cell? ⟨w2.heap.size, 1, none⟩ = some (.int .i64 0) := by rw [cell_of_row _ _ 1 _ _ _ z5]; rfl
  have k2 : w5.cell? ⟨w2.heap.size, 2, none⟩ = some (.int .i64 0) := by rw [cell_of_row _ _ 2 _ _ _ z5]; rfl
  have k3 : w5.cell? ⟨w2.heap.size, 3, none⟩ = some (.int .i64 0) := by rw [cell_of_row _ _ 3 _ _ _ z5]; rfl
  clear x0 x1 x2 z4 z5
  go_wp2_with fail
  refine (may_nil a b c none 0 0 w5).mono ?_
  rintro e w6 ⟨rfl, hb6⟩
  clear y0 y1 y2 k0 k1 k2 k3
  go_wp2_with fail
  refine (held_nil w6).mono ?_
  rintro e w7 ⟨rfl, rfl⟩
  go_wp2
  go_ret
  exact ⟨rfl, below2 (below2 (below2 H1.out hb4) hb5) hb6⟩
end Go.Proofs.Ytljdiaokjocfpaa.Ls

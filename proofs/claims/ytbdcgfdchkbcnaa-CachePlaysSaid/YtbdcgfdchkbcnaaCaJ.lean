/- cache: the law CacheNone. -/
import Derived.Test.YtbdcgfdchkbcnaaCaI
namespace Go.Proofs.Ytbdcgfdchkbcnaa.Ca
open Go.RowKit Go.Proofs.Ytbdcgfdchkbcnaa.L Go.Proofs.Ytbdcgfdchkbcnaa.R Go.Proofs.Ytbdcgfdchkbcnaa.A Go.Proofs.Ytbdcgfdchkbcnaa.S Go.Proofs.Ytbdcgfdchkbcnaa.T Go.Proofs.Ytbdcgfdchkbcnaa.C Go.Proofs.Ytbdcgfdchkbcnaa.G Go.Proofs.Ytbdcgfdchkbcnaa.E Go.Proofs.Ytbdcgfdchkbcnaa.F
set_option linter.unusedVariables false
set_option linter.unusedSimpArgs false

theorem en_eq' (d : Nat) (a b c f : Int) (w : World) : (Op.equalIn (d + 4) 77 (.agg #[.int .i64 a, .int .i64 b, .int .i64 c, .int .i64 f]) (.agg #[.int .i64 a, .int .i64 b, .int .i64 c, .int .i64 f])).run Try.prog w = .ok true w := by
  have hp : Try.prog.stoodInHeld 77 = false := by kernel_rfl
  have hf : Try.prog.underlying 77 = some (.struct (Try.prog.fieldsOf 77)) := by kernel_rfl
  rw [run_equalIn_agg w _ _ _ _ hf hp]
  clear hf hp
  go_simp
theorem en_eq (a b c f : Int) (w : World) : (Op.equalIn 10000 77 (.agg #[.int .i64 a, .int .i64 b, .int .i64 c, .int .i64 f]) (.agg #[.int .i64 a, .int .i64 b, .int .i64 c, .int .i64 f])).run Try.prog w = .ok true w := en_eq' 9996 a b c f w
theorem en_guard : Try.prog.eqGuardType Try.prog.depth 77 = false := by kernel_rfl
set_option maxHeartbeats 2000000 in
theorem get_nil (c : Int) (w : World) : Calls Try.prog 53 #[.pointer none, .int .i64 c] w fun e w' => e = .returned (.tuple #[aggE z0, .bool false]) ∧ Below w.heap.size w w' := by
  obtain ⟨W, hW⟩ : ∃ W, Hid (w.alloc (.cells #[.int .i64 0, .int .i64 0, .int .i64 0, .int .i64 0] 77) = W) := ⟨_, Lib.hid rfl⟩
  have hb0 : Below w.heap.size w W := by rw [← hW.out]; exact below_alloc _ _
  have hW0 : W.heap[w.heap.size]? = some (.cells #[.int .i64 0, .int .i64 0, .int .i64 0, .int .i64 0] 77 (0, 0)) := by rw [← hW.out]; exact heap_alloc_new _ _
  have HB := Lib.hid hb0
  have HP := Lib.hid (peek_nil c W)
  have HW0 := Lib.hid hW0
  clear hb0 hW0
  dsimp only [aggE, z0] at HP ⊢
  go_enter Try.func53, Try.ntmps53
  go_wp2_with fail
  rw [hW.out]
  refine HP.out.mono ?_
  rintro e w1 ⟨rfl, hb1⟩
  have HB1 := Lib.hid hb1
  have hb2 := below_alloc w1 (.cells #[.int .i64 0, .int .i64 0, .int .i64 0, .int .i64 0] 77)
  have h1 := Lib.hid (((below2 hb1 hb2).block w.heap.size (Array.getElem?_eq_some_iff.1 HW0.out).1).trans HW0.out)
  have HB2 := Lib.hid hb2
  clear hb1 hb2
  go_wp2_with (refine wpList_store_blk rfl 77 (.tmp 4) (.tmp 20) rfl w.heap.size 0 rfl 77 _ (.agg #[.int .i64 0, .int .i64 0, .int .i64 0, .int .i64 0]) rfl h1.out (by kernel_rfl) (by decide) (by simp [Value.cells, Value.oneCell']) _ rfl ?_; intro w5 hg5 hu5)
  have r0 : w5.cell? ⟨w.heap.size, 0, none⟩ = some (.int .i64 0) := by rw [cell_of_row w5 _ 0 _ _ _ hg5]; rfl
  have r1 : w5.cell? ⟨w.heap.size, 1, none⟩ = some (.int .i64 0) := by rw [cell_of_row w5 _ 1 _ _ _ hg5]; rfl
  have r2 : w5.cell? ⟨w.heap.size, 2, none⟩ = some (.int .i64 0) := by rw [cell_of_row w5 _ 2 _ _ _ hg5]; rfl
  have r3 : w5.cell? ⟨w.heap.size, 3, none⟩ = some (.int .i64 0) := by rw [cell_of_row w5 _ 3 _ _ _ hg5]; rfl
  refine bodyPost_ret (v := .tuple #[.agg #[.int .i64 0, .int .i64 0, .int .i64 0, .int .i64 0], .bool false]) (by simp [results, Try.results53, go_sem, r0, r1, r2, r3]) rfl ⟨rfl, ?_⟩
  exact (below2 HB.out (below2 HB1.out HB2.out)).trans (hu5.below (Nat.le_refl _))
set_option maxHeartbeats 4000000 in
set_option maxRecDepth 100000 in
theorem none_walk (w : World) (x : Ent) : Calls Try.prog 14 #[aggE x] w fun e w' => e = .returned (.bool true) ∧ Below w.heap.size w w' := by
  obtain ⟨x1, x2, x3, x4⟩ := x
  dsimp only [aggE]
  obtain ⟨W, hW⟩ : ∃ W, Hid (w.alloc (.cells #[.int .i64 x1, .int .i64 x2, .int .i64 x3, .int .i64 x4] 77) = W) := ⟨_, Lib.hid rfl⟩
  have hb0 : Below w.heap.size w W := by rw [← hW.out]; exact below_alloc _ _
  have g0 : W.heap[w.heap.size]? = some (.cells #[.int .i64 x1, .int .i64 x2, .int .i64 x3, .int .i64 x4] 77 (0, 0)) := by rw [← hW.out]; exact heap_alloc_new _ _
  have RD : Hid (∀ w1, Below W.heap.size W w1 → w1.cell? ⟨w.heap.size, 0, none⟩ = some (.int .i64 x1) ∧ w1.cell? ⟨w.heap.size, 1, none⟩ = some (.int .i64 x2) ∧ w1.cell? ⟨w.heap.size, 2, none⟩ = some (.int .i64 x3) ∧ w1.cell? ⟨w.heap.size, 3, none⟩ = some (.int .i64 x4)) := Lib.hid fun w1 hb => by
    refine ⟨cell_below hb ?_, cell_below hb ?_, cell_below hb ?_, cell_below hb ?_⟩ <;> (rw [cell_of_row W _ _ _ _ _ g0]; rfl)
  have HB0 := Lib.hid hb0
  have HA := Lib.hid (awake_any W)
  have heq := en_eq 0 0 0 0
  have hg := en_guard
  clear hb0 g0
  go_enter Try.func14, Try.ntmps14
  go_wp2_with (rw [hW.out])
  refine HA.out.mono ?_
  rintro e w1 ⟨rfl, hb1⟩
  have HB1 := Lib.hid hb1
  clear hb1
  go_wp2_with fail
  refine (clear_nil w1).mono ?_
  rintro e w2 ⟨rfl, hb2⟩
  have HB2 := Lib.hid (below2 HB1.out hb2)
  clear hb2
  obtain ⟨c0, c1, c2, c3⟩ := RD.out w2 HB2.out
  have HG := Lib.hid (get_nil x1 w2)
  dsimp only [aggE, z0] at HG
  go_wp2_with fail
  refine HG.out.mono ?_
  rintro e w3 ⟨rfl, hb3⟩
  have HB3 := Lib.hid (below2 HB2.out hb3)
  clear hb3 c0 c1 c2 c3
  obtain ⟨W3, hW3⟩ : ∃ W3, Hid (w3.alloc (.cells #[.int .i64 0, .int .i64 0, .int .i64 0, .int .i64 0] 77) = W3) := ⟨_, Lib.hid rfl⟩
  have hb4 : Below w3.heap.size w3 W3 := by rw [← hW3.out]; exact below_alloc _ _
  have HB4 := Lib.hid (below2 HB3.out hb4)
  have g3 : W3.heap[w3.heap.size]? = some (.cells #[.int .i64 0, .int .i64 0, .int .i64 0, .int .i64 0] 77 (0, 0)) := by rw [← hW3.out]; exact heap_alloc_new _ _
  have R3 : Hid (∀ w1, Below W3.heap.size W3 w1 → w1.cell? ⟨w3.heap.size, 0, none⟩ = some (.int .i64 0) ∧ w1.cell? ⟨w3.heap.size, 1, none⟩ = some (.int .i64 0) ∧ w1.cell? ⟨w3.heap.size, 2, none⟩ = some (.int .i64 0) ∧ w1.cell? ⟨w3.heap.size, 3, none⟩ = some (.int .i64 0)) := Lib.hid fun w1 hb => by
    refine ⟨cell_below hb ?_, cell_below hb ?_, cell_below hb ?_, cell_below hb ?_⟩ <;> (rw [cell_of_row W3 _ _ _ _ _ g3]; rfl)
  obtain ⟨c0, c1, c2, c3⟩ := RD.out w3 HB3.out
  have cc0 : ∀ o, (w3.alloc o).cell? ⟨w.heap.size, 0, none⟩ = some (.int .i64 x1) := fun o => cell_below (below_alloc w3 o) c0
  have HP := Lib.hid (peek_nil x1 W3)
  dsimp only [aggE, z0] at HP
  clear hb4 g3
  go_wp2_with fail
  rw [hW3.out]
  clear cc0
  refine HP.out.mono ?_
  rintro e w4 ⟨rfl, hb5⟩
  have HB5 := Lib.hid hb5
  clear hb5 c0 c1 c2 c3
  obtain ⟨W4, hW4⟩ : ∃ W4, Hid (w4.alloc (.cells #[.int .i64 0, .int .i64 0, .int .i64 0, .int .i64 0] 77) = W4) := ⟨_, Lib.hid rfl⟩
  have hb6 : Below w4.heap.size w4 W4 := by rw [← hW4.out]; exact below_alloc _ _
  have g4 : W4.heap[w4.heap.size]? = some (.cells #[.int .i64 0, .int .i64 0, .int .i64 0, .int .i64 0] 77 (0, 0)) := by rw [← hW4.out]; exact heap_alloc_new _ _
  have R4 : Hid (∀ w1, Below W4.heap.size W4 w1 → w1.cell? ⟨w4.heap.size, 0, none⟩ = some (.int .i64 0) ∧ w1.cell? ⟨w4.heap.size, 1, none⟩ = some (.int .i64 0) ∧ w1.cell? ⟨w4.heap.size, 2, none⟩ = some (.int .i64 0) ∧ w1.cell? ⟨w4.heap.size, 3, none⟩ = some (.int .i64 0)) := Lib.hid fun w1 hb => by
    refine ⟨cell_below hb ?_, cell_below hb ?_, cell_below hb ?_, cell_below hb ?_⟩ <;> (rw [cell_of_row W4 _ _ _ _ _ g4]; rfl)
  have HB6 := Lib.hid (below2 HB5.out hb6)
  have HB7 := Lib.hid (below2 HB4.out HB6.out)
  clear hb6 g4
  obtain ⟨c0, c1, c2, c3⟩ := RD.out w4 (below2 HB4.out HB5.out)
  have cc0 : ∀ o, (w4.alloc o).cell? ⟨w.heap.size, 0, none⟩ = some (.int .i64 x1) := fun o => cell_below (below_alloc w4 o) c0
  have cc1 : ∀ o, (w4.alloc o).cell? ⟨w.heap.size, 1, none⟩ = some (.int .i64 x2) := fun o => cell_below (below_alloc w4 o) c1
  have cc2 : ∀ o, (w4.alloc o).cell? ⟨w.heap.size, 2, none⟩ = some (.int .i64 x3) := fun o => cell_below (below_alloc w4 o) c2
  have cc3 : ∀ o, (w4.alloc o).cell? ⟨w.heap.size, 3, none⟩ = some (.int .i64 x4) := fun o => cell_below (below_alloc w4 o) c3
  have hs4 : Hid (W4.heap.size = w4.heap.size + 1) := Lib.hid (by rw [← hW4.out, World.size_alloc])
  obtain ⟨W5, hW5⟩ : ∃ W5, Hid (W4.alloc (.cells #[.int .i64 x1, .int .i64 x2, .int .i64 x3, .int .i64 x4] 77) = W5) := ⟨_, Lib.hid rfl⟩
  have HB8 : Hid (Below W4.heap.size W4 W5) := Lib.hid (by rw [← hW5.out]; exact below_alloc _ _)
  have HQ := Lib.hid (puts_nil (.slice (some ⟨W4.heap.size, 0, none⟩) 1 1) W5)
  rw [hs4.out] at HQ
  go_wp2_with fail
  rw [hW4.out, hW5.out]
  refine HQ.out.mono ?_
  rintro e w5 ⟨rfl, hb7⟩
  clear c0 c1 c2 c3 cc0 cc1 cc2 cc3
  have HB9 := Lib.hid (below2 HB8.out hb7)
  clear hb7
  obtain ⟨p0, p1, p2, p3⟩ := R4.out w5 HB9.out
  obtain ⟨q0, q1, q2, q3⟩ := R3.out w5 (below2 HB6.out HB9.out)
  obtain ⟨c0, c1, c2, c3⟩ := RD.out w5 (below2 HB7.out HB9.out)
  have HS := Lib.hid (stale_nil x1 x2 w5)
  go_wp2_with fail
  refine HS.out.mono ?_
  rintro e w6 ⟨rfl, hb8⟩
  have HB10 := Lib.hid (below2 HB9.out hb8)
  clear c0 c1 c2 c3 p0 p1 p2 p3 q0 q1 q2 q3 hb8
  obtain ⟨c0, c1, c2, c3⟩ := RD.out w6 (below2 HB7.out HB10.out)
  obtain ⟨W6, hW6⟩ : ∃ W6, Hid (w6.alloc (.cells #[.int .i64 x1] 3) = W6) := ⟨_, Lib.hid rfl⟩
  have HB11 : Hid (Below W4.heap.size W4 W6) := Lib.hid (by rw [← hW6.out]; exact below2 HB10.out (below_alloc _ _))
  have HD := Lib.hid (drop_nil (some ⟨w6.heap.size, 0, none⟩) 1 1 W6)
  go_wp2_with (rw [hW6.out])
  refine HD.out.mono ?_
  rintro e w7 ⟨rfl, hb9⟩
  have HB12 := Lib.hid (below2 HB11.out hb9)
  clear c0 c1 c2 c3 hb9
  go_wp2_with fail
  refine (all_nil w7).mono ?_
  rintro e w8 ⟨rfl, hb10⟩
  have HB13 := Lib.hid (below2 HB0.out (below2 HB7.out (below2 HB12.out hb10)))
  clear hb10
  go_wp2
  go_ret
  exact ⟨rfl, HB13.out⟩
end Go.Proofs.Ytbdcgfdchkbcnaa.Ca

/- arrow: Find, New; a book that isn't there. -/
import Derived.Test.YtmddcmfleipjjaaArA
namespace Go.Proofs.Ytmddcmfleipjjaa.Ar
open Go.RowKit Go.Proofs.Ytmddcmfleipjjaa.L Go.Proofs.Ytmddcmfleipjjaa.A Go.Proofs.Ytmddcmfleipjjaa.R Go.Proofs.Ytmddcmfleipjjaa.T Go.Proofs.Ytmddcmfleipjjaa.F Go.Proofs.Ytmddcmfleipjjaa.S Go.Proofs.Ytmddcmfleipjjaa.Sp
set_option linter.unusedVariables false
set_option linter.unusedSimpArgs false

abbrev AR : TypeId := 29
set_option maxHeartbeats 4000000 in
theorem find_any (g o : Nat) (n t x y : Int) (w : World) (h : Rr w g o n t x) (hn : -9223372036854775808 ≤ n ∧ n ≤ 9223372036854775807) :
    Calls Try.prog 10 #[.pointer (some ⟨g, o, none⟩), .int .i64 y] w fun e w' => if (neighL n t).contains y then e = .returned (.tuple #[.int .i64 (was n x), .bool (x == n), .int .i64 0]) ∧ Turned g o y w w' else e = .returned (.tuple #[.int .i64 0, .bool false, .int .i64 1]) ∧ Below w.heap.size w w' := by
  obtain ⟨ws, hws⟩ : ∃ ws, was n x = ws := ⟨_, rfl⟩
  obtain ⟨hm, hhm⟩ : ∃ hm, (x == n) = hm := ⟨_, rfl⟩
  have HTN : Hid (∀ W, Below w.heap.size w W → Calls Try.prog 22 #[.pointer (some ⟨g, o, none⟩), .int .i64 y] W fun e w' => e = .returned (.tuple #[.int .i64 ws, .bool hm]) ∧ Turned g o y W w') := Lib.hid fun W hb => by rw [← hws, ← hhm]; exact turn_any g o n t x y W (h.below hb)
  rw [hws, hhm]
  obtain ⟨NL, hNL⟩ : ∃ NL, neighL n t = NL := ⟨_, rfl⟩
  obtain ⟨ln, hln⟩ : ∃ ln, NL.length = ln := ⟨_, rfl⟩
  have HNB : Hid (∀ W : World, Calls Try.prog 24 #[.int .i64 n, .int .i64 t] W fun e w' => ∃ A c, e = .returned (.slice A ln c) ∧ Rd w' A ln (ints NL) ∧ Below W.heap.size W w') := Lib.hid fun W => by
    refine (neighbours_any n t W hn).mono ?_
    intro e w' hG
    rw [hNL] at hG
    obtain ⟨A, c, rfl, hr, -, -, hb⟩ := hG.rd
    rw [hln] at hr ⊢
    exact ⟨A, c, rfl, hr, hb⟩
  rw [hNL]
  obtain ⟨q, HQ⟩ : ∃ q, Hid (NL.contains y = q) := ⟨_, Lib.hid rfl⟩
  rw [HQ.out]
  have HR := Lib.hid h
  clear h hws hhm hNL hln
  go_enter Try.func10, Try.ntmps10
  go_wp2_with fail
  refine wp_region_one (fun W' => Below w.heap.size w W') (fun u v => Below u.heap.size u v) (fun a i => match i with
      | 0 => (fun v _ => v = .pointer (some ⟨g, o, none⟩))
      | 1 => (fun v _ => v = .pointer (some ⟨g, o, none⟩))
      | 2 => (fun v _ => v = .pointer (some ⟨g, o, none⟩))
      | 3 => (fun v _ => v = .int .i64 n)
      | 4 => (fun v _ => v = .pointer (some ⟨g, o, none⟩))
      | 5 => (fun v _ => v = .pointer (some ⟨g, o, none⟩))
      | 6 => (fun v _ => v = .pointer (some ⟨g, o + 1, none⟩))
      | 7 => (fun v _ => v = .int .i64 t)
      | 8 => (fun v W => ∃ A c, v = .slice A ln c ∧ Rd W A ln (ints NL))
      | 9 => (fun v _ => v = .int .i64 y)
      | 10 => (fun v _ => v = .bool q)
      | 11 => (fun v _ => v = .bool (!q))
      | _ => (fun _ _ => True)) #[0, 1, 3, 7, 0, 16, 48, 112, 255, 0, 1023, 2047] #[0, 1, 2, 4, 0, 16, 32, 64, 136, 0, 768, 1024] 3839 (by kernel_rfl) 12 rfl (fun m hm => by subst hm; kernel_rfl) (by kernel_rfl) (fun w => Below.refl _ w) (fun u v w h1 h2 => below2 h1 h2) ?_ (below_drewN 1 w) ?_ ?_
  · intro i hi
    rcases (by omega : i = 0 ∨ i = 1 ∨ i = 2 ∨ i = 3 ∨ i = 4 ∨ i = 5 ∨ i = 6 ∨ i = 7 ∨ i = 8 ∨ i = 9 ∨ i = 10 ∨ i = 11) with rfl | rfl | rfl | rfl | rfl | rfl | rfl | rfl | rfl | rfl | rfl | rfl
    · exact fun v w w' h hr => by exact h
    · exact fun v w w' h hr => by exact h
    · exact fun v w w' h hr => by exact h
    · exact fun v w w' h hr => by exact h
    · exact fun v w w' h hr => by exact h
    · exact fun v w w' h hr => by exact h
    · exact fun v w w' h hr => by exact h
    · exact fun v w w' h hr => by exact h
    · exact fun v w w' h hr => by obtain ⟨A, c, h1, h2⟩ := h; exact ⟨A, c, h1, h2.below hr⟩
    · exact fun v w w' h hr => by exact h
    · exact fun v w w' h hr => by exact h
    · exact fun v w w' h hr => by exact h
  · intro i hi
    rcases (by omega : i = 0 ∨ i = 1 ∨ i = 2 ∨ i = 3 ∨ i = 4 ∨ i = 5 ∨ i = 6 ∨ i = 7 ∨ i = 8 ∨ i = 9 ∨ i = 10 ∨ i = 11) with rfl | rfl | rfl | rfl | rfl | rfl | rfl | rfl | rfl | rfl | rfl | rfl
    · -- 0: Op.move (Operand.tmp 0)
      intro l hl vs W hS hR hp
      obtain rfl : l = [] := hl.symm.trans (by kernel_rfl)
      clear hp hl
      refine opgoal (_) (some 9) rfl rfl fun K hK => ?_
      refine Runs.mk ?_
      simp only [putAll]
      go_simp
      refine hK _ _ ?_ hS ((fun w => Below.refl _ w) W) _ rfl rfl
      first | rfl | go_simp | simp
    · -- 1: Op.nilCheck (Operand.tmp 9)
      intro l hl vs W hS hR hp
      obtain rfl : l = [(0, 9)] := hl.symm.trans (by kernel_rfl)
      have p0 : vs 0 = _ := hp 0 (by decide) (by decide)
      clear hp hl
      refine opgoal (_) (some 10) rfl rfl fun K hK => ?_
      refine Runs.mk ?_
      simp only [putAll]
      go_simp
      refine hK _ _ ?_ hS ((fun w => Below.refl _ w) W) _ rfl rfl
      first | rfl | go_simp | simp
    · -- 2: Op.fieldAddr 29 (Operand.tmp 10) 0
      intro l hl vs W hS hR hp
      obtain rfl : l = [(0, 9), (1, 10)] := hl.symm.trans (by kernel_rfl)
      have p1 : vs 1 = _ := hp 1 (by decide) (by decide)
      clear hp hl
      refine opgoal (_) (some 11) rfl rfl fun K hK => ?_
      refine Runs.mk ?_
      simp only [putAll]
      go_simp
      refine hK _ _ ?_ hS ((fun w => Below.refl _ w) W) _ rfl rfl
      first | rfl | go_simp | simp
    · -- 3: Op.load 3 (Operand.tmp 11)
      intro l hl vs W hS hR hp
      obtain rfl : l = [(0, 9), (1, 10), (2, 11)] := hl.symm.trans (by kernel_rfl)
      have p2 : vs 2 = _ := hp 2 (by decide) (by decide)
      clear hp hl
      refine opgoal (_) (some 12) rfl rfl fun K hK => ?_
      have c0 := (HR.out.below hS).c0
      refine Runs.mk ?_
      simp only [putAll]
      go_simp
      refine hK _ _ ?_ hS ((fun w => Below.refl _ w) W) _ rfl rfl
      first | rfl | go_simp | simp
    · -- 4: Op.move (Operand.tmp 0)
      intro l hl vs W hS hR hp
      obtain rfl : l = [] := hl.symm.trans (by kernel_rfl)
      clear hp hl
      refine opgoal (_) (some 13) rfl rfl fun K hK => ?_
      refine Runs.mk ?_
      simp only [putAll]
      go_simp
      refine hK _ _ ?_ hS ((fun w => Below.refl _ w) W) _ rfl rfl
      first | rfl | go_simp | simp
    · -- 5: Op.nilCheck (Operand.tmp 13)
      intro l hl vs W hS hR hp
      obtain rfl : l = [(4, 13)] := hl.symm.trans (by kernel_rfl)
      have p4 : vs 4 = _ := hp 4 (by decide) (by decide)
      clear hp hl
      refine opgoal (_) (some 14) rfl rfl fun K hK => ?_
      refine Runs.mk ?_
      simp only [putAll]
      go_simp
      refine hK _ _ ?_ hS ((fun w => Below.refl _ w) W) _ rfl rfl
      first | rfl | go_simp | simp
    · -- 6: Op.fieldAddr 29 (Operand.tmp 14) 1
      intro l hl vs W hS hR hp
      obtain rfl : l = [(4, 13), (5, 14)] := hl.symm.trans (by kernel_rfl)
      have p5 : vs 5 = _ := hp 5 (by decide) (by decide)
      clear hp hl
      refine opgoal (_) (some 15) rfl rfl fun K hK => ?_
      refine Runs.mk ?_
      simp only [putAll]
      go_simp
      refine hK _ _ ?_ hS ((fun w => Below.refl _ w) W) _ rfl rfl
      first | rfl | go_simp | simp
    · -- 7: Op.load 3 (Operand.tmp 15)
      intro l hl vs W hS hR hp
      obtain rfl : l = [(4, 13), (5, 14), (6, 15)] := hl.symm.trans (by kernel_rfl)
      have p6 : vs 6 = _ := hp 6 (by decide) (by decide)
      clear hp hl
      refine opgoal (_) (some 16) rfl rfl fun K hK => ?_
      have c1 := (HR.out.below hS).c1
      refine Runs.mk ?_
      simp only [putAll]
      go_simp
      refine hK _ _ ?_ hS ((fun w => Below.refl _ w) W) _ rfl rfl
      first | rfl | go_simp | simp
    · -- 8: Op.call { callee := Callee.value (Operand.func 24), args := #[Operand.tmp 12, Operand.tmp 16], argTypes := #[3, 3] }
      intro l hl vs W hS hR hp
      obtain rfl : l = [(0, 9), (1, 10), (2, 11), (3, 12), (4, 13), (5, 14), (6, 15), (7, 16)] := hl.symm.trans (by kernel_rfl)
      have p3 : vs 3 = _ := hp 3 (by decide) (by decide)
      have p7 : vs 7 = _ := hp 7 (by decide) (by decide)
      clear hp hl
      refine opgoal (_) (some 17) rfl rfl fun K hK => ?_
      refine Runs.mk ?_
      simp only [putAll]
      go_simp
      refine (HNB.out W).mono ?_
      rintro e w' ⟨A, c, rfl, hrd, hb⟩
      go_simp
      exact hK _ _ ⟨A, c, rfl, hrd⟩ (below2 hS hb) hb _ rfl rfl
    · -- 9: Op.move (Operand.tmp 1)
      intro l hl vs W hS hR hp
      obtain rfl : l = [] := hl.symm.trans (by kernel_rfl)
      clear hp hl
      refine opgoal (_) (some 18) rfl rfl fun K hK => ?_
      refine Runs.mk ?_
      simp only [putAll]
      go_simp
      refine hK _ _ ?_ hS ((fun w => Below.refl _ w) W) _ rfl rfl
      first | rfl | go_simp | simp
    · -- 10: Op.call { callee := Callee.value (Operand.func 23), args := #[Operand.tmp 17, Operand.tmp 18], argTypes := #[47, 3] }
      intro l hl vs W hS hR hp
      obtain rfl : l = [(0, 9), (1, 10), (2, 11), (3, 12), (4, 13), (5, 14), (6, 15), (7, 16), (8, 17), (9, 18)] := hl.symm.trans (by kernel_rfl)
      have p8 : (fun v W => ∃ A c, v = .slice A ln c ∧ Rd W A ln (ints NL)) (vs 8) W := hp 8 (by decide) (by decide)
      dsimp only at p8
      have p9 : vs 9 = _ := hp 9 (by decide) (by decide)
      clear hp hl
      obtain ⟨A8, c8, q8, r8⟩ := p8
      refine opgoal (_) (some 19) rfl rfl fun K hK => ?_
      refine Runs.mk ?_
      simp only [putAll]
      go_simp
      have hc := contains_any A8 ln c8 NL y W r8
      rw [HQ.out] at hc
      refine hc.mono ?_
      rintro e w' ⟨rfl, rfl⟩
      go_simp
      exact hK _ _ rfl hS (Below.refl _ _) _ rfl rfl
    · -- 11: Op.unOp UnOp.not 4 (Operand.tmp 19)
      intro l hl vs W hS hR hp
      obtain rfl : l = [(0, 9), (1, 10), (2, 11), (3, 12), (4, 13), (5, 14), (6, 15), (7, 16), (8, 17), (9, 18), (10, 19)] := hl.symm.trans (by kernel_rfl)
      have p10 : vs 10 = _ := hp 10 (by decide) (by decide)
      clear hp hl
      refine opgoal (_) (some 20) rfl rfl fun K hK => ?_
      refine Runs.mk ?_
      simp only [putAll]
      go_simp
      refine hK _ _ ?_ hS ((fun w => Below.refl _ w) W) _ rfl rfl
      first | rfl | go_simp | simp
  · intro l hl vs W hS hR hp
    obtain rfl : l = [(0, 9), (1, 10), (2, 11), (3, 12), (4, 13), (5, 14), (6, 15), (7, 16), (8, 17), (9, 18), (10, 19), (11, 20)] := hl.symm.trans (by kernel_rfl)
    have p0 : vs 0 = _ := hp 0 (by decide) (by decide)
    have p1 : vs 1 = _ := hp 1 (by decide) (by decide)
    have p2 : vs 2 = _ := hp 2 (by decide) (by decide)
    have p3 : vs 3 = _ := hp 3 (by decide) (by decide)
    have p4 : vs 4 = _ := hp 4 (by decide) (by decide)
    have p5 : vs 5 = _ := hp 5 (by decide) (by decide)
    have p6 : vs 6 = _ := hp 6 (by decide) (by decide)
    have p7 : vs 7 = _ := hp 7 (by decide) (by decide)
    have p9 : vs 9 = _ := hp 9 (by decide) (by decide)
    have p10 : vs 10 = _ := hp 10 (by decide) (by decide)
    have p11 : vs 11 = _ := hp 11 (by decide) (by decide)
    clear hp hl
    simp only [putAll_mk, setAll, List.setIfInBounds_toArray, List.set_cons_succ, List.set_cons_zero, p0, p1, p2, p3, p4, p5, p6, p7, p9, p10, p11]
    have HS := Lib.hid hS
    clear hS hR
    have HT := Lib.hid (HTN.out W HS.out)
    cases q with
    | true =>
      go_wp2_with fail
      refine HT.out.mono ?_
      rintro e w1 ⟨rfl, W0, hb0, hs0⟩
      have HF : Hid (Turned g o y w w1) := Lib.hid ⟨W0, below2 HS.out hb0, hs0⟩
      clear hb0 hs0
      go_wp2
      refine bodyPost_ret (v := .tuple #[.int .i64 ws, .bool hm, .int .i64 0]) (by simp [results, Try.results10, go_sem]) rfl ?_
      exact ⟨rfl, HF.out⟩
    | false =>
      go_wp2
      refine bodyPost_ret (v := .tuple #[.int .i64 0, .bool false, .int .i64 1]) (by simp [results, Try.results10, go_sem]) rfl ?_
      exact ⟨rfl, HS.out⟩
set_option maxHeartbeats 4000000 in
theorem new_any (a t b : Int) (w : World) :
    Calls Try.prog 21 #[.int .i64 a, .int .i64 t, .int .i64 b] w fun e w' => e = .returned (if towI a b t = 0 then .tuple #[.agg #[.int .i64 0, .int .i64 0, .int .i64 0], .int .i64 1] else .tuple #[.agg #[.int .i64 a, .int .i64 t, .int .i64 (towI a b t)], .int .i64 0]) ∧ Below w.heap.size w w' := by
  obtain ⟨W, hW⟩ : ∃ W, Hid (w.alloc (.cells #[.int .i64 0, .int .i64 0, .int .i64 0] AR) = W) := ⟨_, Lib.hid rfl⟩
  have hb0 : Below w.heap.size w W := by rw [← hW.out]; exact below_alloc _ _
  have h1 : W.heap[w.heap.size]? = some (.cells #[.int .i64 0, .int .i64 0, .int .i64 0] AR (0, 0)) := by rw [← hW.out]; exact heap_alloc_new _ _
  have HZ : Hid (∀ W', Below W.heap.size W W' → W'.heap[w.heap.size]? = some (.cells #[.int .i64 0, .int .i64 0, .int .i64 0] AR (0, 0))) := Lib.hid fun W' hb => keep_block (.of_below (S := []) hb) h1 (by simp)
  have HB := Lib.hid hb0
  have HT := Lib.hid (toward_any a b t W)
  obtain ⟨x, hx⟩ : ∃ x, towI a b t = x := ⟨_, rfl⟩
  rw [hx] at HT ⊢
  clear hb0 h1 hx
  by_cases h0 : x = 0
  · rw [if_pos h0]
    have e1 : (x == 0) = true := by simpa using h0
    have e2 : decide (x = 0) = true := by simpa using h0
    clear h0
    go_enter Try.func21, Try.ntmps21
    go_wp2_with fail
    rw [hW.out]
    refine HT.out.mono ?_
    rintro e w1 ⟨rfl, hb1⟩
    have HZ1 := Lib.hid (HZ.out w1 hb1)
    have HB1 := Lib.hid (below2 HB.out hb1)
    clear hb1
    go_wp2_with (refine wpList_store_blk rfl AR (.tmp 6) (.tmp 15) rfl w.heap.size 0 rfl AR _ (.agg #[.int .i64 0, .int .i64 0, .int .i64 0]) rfl HZ1.out (by kernel_rfl) (by simp [Value.cells]) (by simp [Value.cells, Value.oneCell']) _ rfl ?_; intro w5 hg5 hu5)
    have r0 : w5.cell? ⟨w.heap.size, 0, none⟩ = some (.int .i64 0) := by rw [cell_of_row w5 _ 0 _ _ _ hg5]; rfl
    have r1 : w5.cell? ⟨w.heap.size, 1, none⟩ = some (.int .i64 0) := by rw [cell_of_row w5 _ 1 _ _ _ hg5]; rfl
    have r2 : w5.cell? ⟨w.heap.size, 2, none⟩ = some (.int .i64 0) := by rw [cell_of_row w5 _ 2 _ _ _ hg5]; rfl
    refine bodyPost_ret (v := .tuple #[.agg #[.int .i64 0, .int .i64 0, .int .i64 0], .int .i64 1]) (by simp [results, Try.results21, go_sem, r0, r1, r2]) rfl ⟨rfl, ?_⟩
    exact HB1.out.trans (hu5.below (Nat.le_refl _))
  · rw [if_neg h0]
    have e1 : (x == 0) = false := by simpa using h0
    have e2 : decide (x = 0) = false := by simpa using h0
    clear h0
    go_enter Try.func21, Try.ntmps21
    go_wp2_with fail
    rw [hW.out]
    refine HT.out.mono ?_
    rintro e w1 ⟨rfl, hb1⟩
    have HZ1 := Lib.hid (HZ.out w1 hb1)
    have HB1 := Lib.hid (below2 HB.out hb1)
    clear hb1
    go_wp2_with (refine wpList_store_blk rfl AR (.tmp 6) (.tmp 19) rfl w.heap.size 0 rfl AR _ (.agg #[.int .i64 a, .int .i64 t, .int .i64 x]) rfl HZ1.out (by kernel_rfl) (by simp [Value.cells]) (by simp [Value.cells, Value.oneCell']) _ rfl ?_; intro w5 hg5 hu5)
    have r0 : w5.cell? ⟨w.heap.size, 0, none⟩ = some (.int .i64 a) := by rw [cell_of_row w5 _ 0 _ _ _ hg5]; rfl
    have r1 : w5.cell? ⟨w.heap.size, 1, none⟩ = some (.int .i64 t) := by rw [cell_of_row w5 _ 1 _ _ _ hg5]; rfl
    have r2 : w5.cell? ⟨w.heap.size, 2, none⟩ = some (.int .i64 x) := by rw [cell_of_row w5 _ 2 _ _ _ hg5]; rfl
    refine bodyPost_ret (v := .tuple #[.agg #[.int .i64 a, .int .i64 t, .int .i64 x], .int .i64 0]) (by simp [results, Try.results21, go_sem, r0, r1, r2]) rfl ⟨rfl, ?_⟩
    exact HB1.out.trans (hu5.below (Nat.le_refl _))
theorem at_nil (c : Int) (w : World) : Calls Try.prog 25 #[.pointer none, .int .i64 c] w fun e w' => e = .returned (.pointer none) ∧ w = w' := by
  go_enter Try.func25, Try.ntmps25
  go_wp2
  go_ret
  exact ⟨rfl, rfl⟩
theorem bwant_nil (c : Int) (w : World) : Calls Try.prog 12 #[.pointer none, .int .i64 c] w fun e w' => e = .returned (.tuple #[.int .i64 0, .bool false, .int .i64 1]) ∧ w = w' := by
  go_enter Try.func12, Try.ntmps12
  go_wp2_with fail
  refine (at_nil c w).mono ?_
  rintro e w1 ⟨rfl, rfl⟩
  go_wp2
  refine bodyPost_ret (v := .tuple #[.int .i64 0, .bool false, .int .i64 1]) (by simp [results, Try.results12, go_sem]) rfl ⟨rfl, rfl⟩
theorem bfind_nil (c y : Int) (w : World) : Calls Try.prog 13 #[.pointer none, .int .i64 c, .int .i64 y] w fun e w' => e = .returned (.tuple #[.int .i64 0, .bool false, .int .i64 1]) ∧ w = w' := by
  go_enter Try.func13, Try.ntmps13
  go_wp2_with fail
  refine (at_nil c w).mono ?_
  rintro e w1 ⟨rfl, rfl⟩
  go_wp2
  refine bodyPost_ret (v := .tuple #[.int .i64 0, .bool false, .int .i64 1]) (by simp [results, Try.results13, go_sem]) rfl ⟨rfl, rfl⟩
theorem bpoint_nil (c y : Int) (w : World) : Calls Try.prog 14 #[.pointer none, .int .i64 c, .int .i64 y] w fun e w' => e = .returned (.int .i64 1) ∧ w = w' := by
  go_enter Try.func14, Try.ntmps14
  go_wp2_with fail
  refine (at_nil c w).mono ?_
  rintro e w1 ⟨rfl, rfl⟩
  go_wp2
  go_ret
  exact ⟨rfl, rfl⟩
theorem bto_nil (c : Int) (w : World) : Calls Try.prog 15 #[.pointer none, .int .i64 c] w fun e w' => e = .returned (.int .i64 0) ∧ w = w' := by
  go_enter Try.func15, Try.ntmps15
  go_wp2_with fail
  refine (at_nil c w).mono ?_
  rintro e w1 ⟨rfl, rfl⟩
  go_wp2
  go_ret
  exact ⟨rfl, rfl⟩
end Go.Proofs.Ytmddcmfleipjjaa.Ar

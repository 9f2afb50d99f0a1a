/- item: the law ItemBytes. -/
import Derived.Test.YtfpocddpnoighaaItQ
namespace Go.Proofs.Ytfpocddpnoighaa.It
open Go.RowKit Go.Proofs.Ytfpocddpnoighaa.L Go.Proofs.Ytfpocddpnoighaa.O Go.Proofs.Ytfpocddpnoighaa.A Go.Proofs.Ytfpocddpnoighaa.R Go.Proofs.Ytfpocddpnoighaa.S Go.Proofs.Ytfpocddpnoighaa.T Go.Proofs.Ytfpocddpnoighaa.E Go.Proofs.Ytfpocddpnoighaa.Wr Go.Proofs.Ytfpocddpnoighaa.F
set_option linter.unusedVariables false
set_option linter.unusedSimpArgs false

theorem newreader_rst (l : List UInt8) (w : World) : Calls Try.prog 46 #[.string (str l)] w fun e w' => ∃ bi b, e = .returned (.pointer (some ⟨bi, 0, none⟩)) ∧ Rst bi b w' (str l, false) ∧ w.heap.size ≤ b ∧ Below w.heap.size w w' := by
  refine (newreader (str l) w).mono ?_
  rintro e w' ⟨he, hw⟩
  subst hw
  refine ⟨_, w.heap.size, he, ⟨?_, (rdr_new w (str l)).below (below_alloc _ _), by simp⟩, Nat.le_refl _, below2 (below_alloc _ _) (below_alloc _ _)⟩
  have := heap_alloc_new (w.alloc (.cells #[.string (str l), .bool false] 128)) (.cells #[.pointer (some ⟨w.heap.size, 0, none⟩)] 78)
  rw [World.size_alloc] at this
  exact this
set_option maxHeartbeats 16000000 in
set_option maxRecDepth 100000 in
theorem bytes_walk (w : World) (t1 t2 t3 : Int) (ht1' : -9223372036854775808 ≤ t1 ∧ t1 ≤ 9223372036854775807) (ht2' : -9223372036854775808 ≤ t2 ∧ t2 ≤ 9223372036854775807) (ht3' : -9223372036854775808 ≤ t3 ∧ t3 ≤ 9223372036854775807) (iA : Option Addr) (ni ic : Nat) (l : List Im) (nA : Option Addr) (nn nc : Nat) (xs : List Int) (more : ByteArray) (hi' : Ims w iA ni l) (hn' : Rd w nA nn (xs.map (Value.int .i64))) (hxg' : ∀ x ∈ xs, -9223372036854775808 ≤ x ∧ x ≤ 9223372036854775807) (hmo : more.size ≤ 140737488351232) :
    Calls Try.prog 10 #[.agg #[.int .i64 t1, .int .i64 t2, .int .i64 t3], .agg #[.slice iA ni ic, .slice nA nn nc], .string more] w fun e w' => e = .returned (.bool true) ∧ Below w.heap.size w w' := by
  have ht1 := Lib.hid ht1'
  have ht2 := Lib.hid ht2'
  have ht3 := Lib.hid ht3'
  have hxg := Lib.hid hxg'
  have hni9 := hi'.rd.2.1
  have hnn9 := hn'.2.1
  obtain ⟨g, hg⟩ : ∃ g, Hid (w.heap.size = g) := ⟨_, Lib.hid rfl⟩
  obtain ⟨W0, hW0⟩ : ∃ W0, Hid ((w.alloc (.cells #[.int .i64 t1, .int .i64 t2, .int .i64 t3] 51)).alloc (.cells #[.slice iA ni ic, .slice nA nn nc] 57) = W0) := ⟨_, Lib.hid rfl⟩
  have hb0 : Hid (Below w.heap.size w W0) := Lib.hid (by rw [← hW0.out]; exact below2 (below_alloc _ _) (below_alloc _ _))
  have hA : Hid (∀ W, Below W0.heap.size W0 W → W.heap[g]? = some (.cells #[.int .i64 t1, .int .i64 t2, .int .i64 t3] 51 (0, 0)) ∧ W.heap[g + 1]? = some (.cells #[.slice iA ni ic, .slice nA nn nc] 57 (0, 0))) := Lib.hid (by
    intro W hb
    rw [← hg.out]
    have e1 : W0.heap[w.heap.size]? = some (.cells #[.int .i64 t1, .int .i64 t2, .int .i64 t3] 51 (0, 0)) := by rw [← hW0.out, heap_alloc_old _ _ (by simp)]; exact heap_alloc_new _ _
    have e2 : W0.heap[w.heap.size + 1]? = some (.cells #[.slice iA ni ic, .slice nA nn nc] 57 (0, 0)) := by
      rw [← hW0.out]
      have := heap_alloc_new (w.alloc (.cells #[.int .i64 t1, .int .i64 t2, .int .i64 t3] 51)) (.cells #[.slice iA ni ic, .slice nA nn nc] 57)
      rw [World.size_alloc] at this; exact this
    exact ⟨keep_block (.of_below (S := []) hb) e1 (by simp), keep_block (.of_below (S := []) hb) e2 (by simp)⟩)
  have HI : Hid (Ims W0 iA ni l) := Lib.hid (hi'.below hb0.out)
  have HN : Hid (Rd W0 nA nn (xs.map (Value.int .i64))) := Lib.hid (hn'.below hb0.out)
  have HIL : Hid (l.length = ni) := Lib.hid hi'.len
  have HNL : Hid (xs.length = nn) := Lib.hid (by simpa using hn'.len)
  clear hi' hn' hxg' ht1' ht2' ht3'
  go_enter Try.func10, Try.ntmps10
  go_wp2_with fail
  rw [hW0.out, hg.out]
  refine (awake_any W0).mono ?_
  rintro e w1 ⟨rfl, hb1⟩
  have HB1 := Lib.hid hb1
  obtain ⟨z1, z2⟩ := cs_cells (hA.out w1 hb1).2
  clear hb1
  by_cases h1 : 60 < ni
  · go_wp2
    go_ret
    exact ⟨rfl, below2 hb0.out HB1.out⟩
  by_cases h2 : 60 < nn
  · go_wp2
    go_ret
    exact ⟨rfl, below2 hb0.out HB1.out⟩
  by_cases h3 : 1000 < more.size
  · go_wp2
    go_ret
    exact ⟨rfl, below2 hb0.out HB1.out⟩
  have hni2 : Hid (ni ≤ 65535) := Lib.hid (by omega)
  have hnn2 : Hid (nn ≤ 65535) := Lib.hid (by omega)
  have hni6 : Hid (ni ≤ 60) := Lib.hid (by omega)
  have hnn6 : Hid (nn ≤ 60) := Lib.hid (by omega)
  obtain ⟨R3, hR3⟩ : ∃ R, Hid (numsB xs ++ more.data.toList = R) := ⟨_, Lib.hid rfl⟩
  obtain ⟨R2, hR2⟩ : ∃ R, Hid (bigB nn 2 ++ R3 = R) := ⟨_, Lib.hid rfl⟩
  obtain ⟨R1, hR1'⟩ : ∃ R, Hid (itemsB l ++ R2 = R) := ⟨_, Lib.hid rfl⟩
  obtain ⟨R0, hR0⟩ : ∃ R, Hid (bigB ni 2 ++ R1 = R) := ⟨_, Lib.hid rfl⟩
  have hR1 : Hid (bigB ni 2 ++ (itemsB l ++ R2) = R0) := Lib.hid (by rw [hR1'.out, hR0.out])
  have hms : more.data.toList.length = more.size := by rw [Array.length_toList]; rfl
  have l3 : R3.length ≤ 2000 := by rw [← hR3.out, List.length_append, len_nums, HNL.out, hms]; omega
  have l2 : R2.length ≤ 2002 := by rw [← hR2.out, List.length_append, len_big]; omega
  have l1 : R1.length ≤ 4000 := by rw [← hR1'.out, List.length_append, len_items, HIL.out]; omega
  have l0 : R0.length ≤ 4002 := by rw [← hR0.out, List.length_append, len_big]; omega
  have hlen0 : Hid ((numsB [t1, t2, t3] ++ R0).length ≤ 140737488355328) := Lib.hid (by rw [List.length_append, len_nums]; simp; omega)
  have hlenl1 : Hid (R0.length ≤ 140737488355328) := Lib.hid (by omega)
  have hlenl3 : Hid ((bigB nn 2 ++ R3).length ≤ 140737488355328) := Lib.hid (by rw [hR2.out]; omega)
  have hlen1 : Hid ((str (bigB ni 2 ++ R1)).size ≤ 140737488355328) := Lib.hid (by rw [str_size, hR0.out]; omega)
  have hlen2 : Hid ((str R1).size ≤ 140737488355328) := Lib.hid (by rw [str_size]; omega)
  have hlen3 : Hid ((str (bigB nn 2 ++ R3)).size ≤ 140737488355328) := Lib.hid (by rw [str_size, hR2.out]; omega)
  obtain ⟨ya, hya⟩ : ∃ y, Hid (str (numsB [t1, t2, t3]) = y) := ⟨_, Lib.hid rfl⟩
  obtain ⟨yb, hyb⟩ : ∃ y, Hid (str (bigB ni 2 ++ itemsB l) = y) := ⟨_, Lib.hid rfl⟩
  obtain ⟨yc, hyc⟩ : ∃ y, Hid (str (bigB nn 2 ++ numsB xs) = y) := ⟨_, Lib.hid rfl⟩
  obtain ⟨bsx, hbsx⟩ : ∃ y, Hid ([] ++ numsB [t1, t2, t3] ++ (bigB ni 2 ++ itemsB l) ++ (bigB nn 2 ++ numsB xs) = y) := ⟨_, Lib.hid rfl⟩
  obtain ⟨sall, hsall⟩ : ∃ y, Hid (str bsx = y) := ⟨_, Lib.hid rfl⟩
  have hsay : Hid (saysB bsx false = sall) := Lib.hid (by rw [← hsall.out]; rfl)
  have hcat : Hid (ya ++ yb ++ yc = sall) := Lib.hid (by rw [← hya.out, ← hyb.out, ← hyc.out, ← hsall.out, ← hbsx.out, str_cat, str_cat]; rfl)
  have htx : Hid (sall ++ more = str (numsB [t1, t2, t3] ++ R0)) := Lib.hid (by
    rw [← hsall.out, ← hbsx.out, ← hR1.out, ← hR2.out, ← hR3.out]
    apply ByteArray.ext
    simp [str])
  have sa : ya.size = 24 := by rw [← hya.out, str_size, len_nums]; rfl
  have sb : yb.size ≤ 2000 := by rw [← hyb.out, str_size, List.length_append, len_big, len_items, HIL.out]; omega
  have sc : yc.size ≤ 500 := by rw [← hyc.out, str_size, List.length_append, len_big, len_nums, HNL.out]; omega
  have ss : sall.size ≤ 3000 := by rw [← hcat.out]; simp only [ByteArray.size_append]; omega
  have zz1 : ¬ 9223372036854775807 < ya.size + yb.size := by omega
  have zz2 : ¬ 9223372036854775807 < ya.size + yb.size + yc.size := by omega
  have zz3 : ¬ 9223372036854775807 < sall.size + more.size := by omega
  have zz4 : sall.size + more.size ≤ 9223372036854775807 := by omega
  have hbl : Hid (bsx.length ≤ 9223372036854775807) := Lib.hid (by have : (str bsx).size ≤ 3000 := by rw [hsall.out]; exact ss
                                                                   rw [str_size] at this; omega)
  clear l0 l1 l2 l3 sa sb sc ss hms
  obtain ⟨b, hb⟩ : ∃ b, Hid (w1.heap.size = b) := ⟨_, Lib.hid rfl⟩
  have H0 := Lib.hid (wrs_new w1 65 (.inr rfl))
  obtain ⟨wB, hwB⟩ : ∃ wB, Hid (w1.alloc (.cells #[.pointer none, .slice none 0 0, .bool false] 65) = wB) := ⟨_, Lib.hid rfl⟩
  rw [hb.out, hwB.out] at H0
  have HC1 := Lib.hid (acc3 H0.out (fun r1 h1 _ => tid_put b r1 [] false t1 t2 t3 wB h1 (by simp)))
  obtain ⟨f0, f1, f2⟩ := td_cells (hA.out w1 HB1.out).1
  have y0 : ∀ o, (w1.alloc o).cell? ⟨g, 0, none⟩ = some (.int .i64 t1) := fun o => cell_below (below_alloc w1 o) f0
  have y1 : ∀ o, (w1.alloc o).cell? ⟨g, 1, none⟩ = some (.int .i64 t2) := fun o => cell_below (below_alloc w1 o) f1
  have y2 : ∀ o, (w1.alloc o).cell? ⟨g, 2, none⟩ = some (.int .i64 t3) := fun o => cell_below (below_alloc w1 o) f2
  have HI1 := Lib.hid (HI.out.below HB1.out)
  have HN1 := Lib.hid (HN.out.below HB1.out)
  clear f0 f1 f2
  go_wp2_with fail
  rw [hwB.out, hb.out]
  refine HC1.out.mono ?_
  rintro e w2 ⟨rfl, h2⟩
  have HW2 := Lib.hid h2
  have HB2 := Lib.hid (below2 HB1.out (h2.keep.below (Nat.le_refl _) (by simp)))
  clear z1 z2 y0 y1 y2 h2
  obtain ⟨z1, z2⟩ := cs_cells (hA.out w2 HB2.out).2
  have HC2 := Lib.hid (acc3 HW2.out (fun r h hbk => items_put b r _ false l iA ni ic w2 h (HI.out.below HB2.out) (fun h0 o ho hm => by
    rcases hbk _ hm with e | e
    · simp at e
    · have := RdE.lt HI1.out.rd (by omega) h0 o ho; omega) hni2.out (by have := hni6.out; rw [List.length_append, len_nums]; simp; omega)))
  go_wp2_with fail
  refine HC2.out.mono ?_
  rintro e w3 ⟨rfl, h3⟩
  have HW3 := Lib.hid h3
  have HB3 := Lib.hid (below2 HB1.out (h3.keep.below (Nat.le_refl _) (by simp)))
  clear z1 z2 h3
  obtain ⟨z1, z2⟩ := cs_cells (hA.out w3 HB3.out).2
  have HC3 := Lib.hid (acc3 HW3.out (fun r h hbk => nodes_put b r _ false xs nA nn nc w3 h (HN.out.below HB3.out) (fun h0 o ho hm => by
    rcases hbk _ hm with e | e
    · simp at e
    · have := rd_lt HN1.out h0 o ho; omega) hnn2.out (by have := hni6.out; have := hnn6.out; have := HIL.out; rw [List.length_append, List.length_append, List.length_append, len_nums, len_big, len_items]; simp; omega)))
  go_wp2_with fail
  refine HC3.out.mono ?_
  rintro e w4 ⟨rfl, h4⟩
  rw [hbsx.out] at h4
  have H4 := Lib.hid h4
  have HB4 := Lib.hid (below2 HB1.out (h4.keep.below (Nat.le_refl _) (by simp)))
  have hS0 : Below w4.heap.size w4 w4.drew := below_drew (Below.refl _ _)
  clear z1 z2 h4 HC1 HC2 HC3 HW2 HW3 H0
  go_wp2_with fail
  refine wp_region_one (fun W => Below w4.heap.size w4 W) (fun u v => Below u.heap.size u v) (fun a i => match i with
      | 0 => (fun v _ => v = .agg #[.int .i64 t1, .int .i64 t2, .int .i64 t3])
      | 1 => (fun v _ => v = .string ya)
      | 2 => (fun v _ => v = .pointer (some ⟨g + 1, 0, none⟩))
      | 3 => (fun v _ => v = .slice iA ni ic)
      | 4 => (fun v _ => v = .string yb)
      | 5 => (fun v _ => v = .string (ya ++ yb))
      | 6 => (fun v _ => v = .pointer (some ⟨g + 1, 1, none⟩))
      | 7 => (fun v _ => v = .slice nA nn nc)
      | 8 => (fun v _ => v = .string yc)
      | 9 => (fun v _ => v = .string (ya ++ yb ++ yc))
      | 10 => (fun v _ => v = .string (ya ++ yb ++ yc))
      | _ => (fun _ _ => True)) #[0, 1, 0, 4, 15, 31, 0, 64, 223, 511, 1023] #[0, 1, 0, 4, 8, 18, 0, 64, 128, 288, 512] 2047 (by kernel_rfl) 11 rfl (fun m hm => by subst hm; kernel_rfl) (by kernel_rfl) (fun w => Below.refl _ w) (fun u v w h1 h2 => below2 h1 h2) ?_ (hS0) ?_ ?_
  · intro i hi
    rcases (by omega : i = 0 ∨ i = 1 ∨ i = 2 ∨ i = 3 ∨ i = 4 ∨ i = 5 ∨ i = 6 ∨ i = 7 ∨ i = 8 ∨ i = 9 ∨ i = 10) with rfl | rfl | rfl | rfl | rfl | rfl | rfl | rfl | rfl | rfl | rfl
    · exact fun v w w' h hr => by exact h
    · exact fun v w w' h hr => by exact h
    · exact fun v w w' h hr => by exact h
    · exact fun v w w' h hr => by exact h
    · exact fun v w w' h hr => by exact h
    · exact fun v w w' h hr => by exact h
    · exact fun v w w' h hr => by exact h
    · exact fun v w w' h hr => by exact h
    · exact fun v w w' h hr => by exact h
    · exact fun v w w' h hr => by exact h
    · exact fun v w w' h hr => by exact h
  · intro i hi
    rcases (by omega : i = 0 ∨ i = 1 ∨ i = 2 ∨ i = 3 ∨ i = 4 ∨ i = 5 ∨ i = 6 ∨ i = 7 ∨ i = 8 ∨ i = 9 ∨ i = 10) with rfl | rfl | rfl | rfl | rfl | rfl | rfl | rfl | rfl | rfl | rfl
    · -- 0: Op.load 51 (Operand.tmp 3)
      intro l hl vs W hS hR hp
      obtain rfl : l = [] := hl.symm.trans (by kernel_rfl)
      clear hp hl
      refine opgoal (_) (some 38) rfl rfl fun K hK => ?_
      obtain ⟨f0, f1, f2⟩ := td_cells (hA.out W (below2 HB4.out hS)).1
      refine Runs.mk ?_
      simp only [putAll]
      go_simp
      refine hK _ _ ?_ hS ((fun w => Below.refl _ w) W) _ rfl rfl
      first | rfl | go_simp | simp
    · -- 1: Op.call { callee := Callee.value (Operand.func 43), args := #[Operand.tmp 38], argTypes := #[51] }
      intro l hl vs W hS hR hp
      obtain rfl : l = [(0, 38)] := hl.symm.trans (by kernel_rfl)
      have p0 : vs 0 = _ := hp 0 (by decide) (by decide)
      clear hp hl
      refine opgoal (_) (some 39) rfl rfl fun K hK => ?_
      refine Runs.mk ?_
      simp only [putAll]
      go_simp
      refine (tid_ref t1 t2 t3 W).mono ?_
      rintro e w' ⟨he, hb⟩
      rw [hya.out] at he
      subst he
      go_simp
      exact hK _ _ rfl (below2 hS hb) hb _ rfl rfl
    · -- 2: Op.fieldAddr 57 (Operand.tmp 4) 0
      intro l hl vs W hS hR hp
      obtain rfl : l = [] := hl.symm.trans (by kernel_rfl)
      clear hp hl
      refine opgoal (_) (some 40) rfl rfl fun K hK => ?_
      refine Runs.mk ?_
      simp only [putAll]
      go_simp
      refine hK _ _ ?_ hS ((fun w => Below.refl _ w) W) _ rfl rfl
      first | rfl | go_simp | simp
    · -- 3: Op.load 54 (Operand.tmp 40)
      intro l hl vs W hS hR hp
      obtain rfl : l = [(2, 40)] := hl.symm.trans (by kernel_rfl)
      have p2 : vs 2 = _ := hp 2 (by decide) (by decide)
      clear hp hl
      refine opgoal (_) (some 41) rfl rfl fun K hK => ?_
      obtain ⟨f0, f1⟩ := cs_cells (hA.out W (below2 HB4.out hS)).2
      refine Runs.mk ?_
      simp only [putAll]
      go_simp
      refine hK _ _ ?_ hS ((fun w => Below.refl _ w) W) _ rfl rfl
      first | rfl | go_simp | simp
    · -- 4: Op.call { callee := Callee.value (Operand.func 44), args := #[Operand.tmp 41], argTypes := #[54] }
      intro l hl vs W hS hR hp
      obtain rfl : l = [(0, 38), (1, 39), (2, 40), (3, 41)] := hl.symm.trans (by kernel_rfl)
      have p3 : vs 3 = _ := hp 3 (by decide) (by decide)
      clear hp hl
      refine opgoal (_) (some 42) rfl rfl fun K hK => ?_
      refine Runs.mk ?_
      simp only [putAll]
      go_simp
      refine (items_refs l iA ni ic W (HI.out.below (below2 HB4.out hS)) hni2.out).mono ?_
      rintro e w' ⟨he, hb⟩
      rw [hyb.out] at he
      subst he
      go_simp
      exact hK _ _ rfl (below2 hS hb) hb _ rfl rfl
    · -- 5: Op.binOp BinOp.add 9 (Operand.tmp 39) (Operand.tmp 42) 9
      intro l hl vs W hS hR hp
      obtain rfl : l = [(0, 38), (1, 39), (2, 40), (3, 41), (4, 42)] := hl.symm.trans (by kernel_rfl)
      have p1 : vs 1 = _ := hp 1 (by decide) (by decide)
      have p4 : vs 4 = _ := hp 4 (by decide) (by decide)
      clear hp hl
      refine opgoal (_) (some 43) rfl rfl fun K hK => ?_
      refine Runs.mk ?_
      simp only [putAll]
      go_simp
      refine hK _ _ ?_ hS ((fun w => Below.refl _ w) W) _ rfl rfl
      first | rfl | go_simp | simp
    · -- 6: Op.fieldAddr 57 (Operand.tmp 4) 1
      intro l hl vs W hS hR hp
      obtain rfl : l = [] := hl.symm.trans (by kernel_rfl)
      clear hp hl
      refine opgoal (_) (some 44) rfl rfl fun K hK => ?_
      refine Runs.mk ?_
      simp only [putAll]
      go_simp
      refine hK _ _ ?_ hS ((fun w => Below.refl _ w) W) _ rfl rfl
      first | rfl | go_simp | simp
    · -- 7: Op.load 55 (Operand.tmp 44)
      intro l hl vs W hS hR hp
      obtain rfl : l = [(6, 44)] := hl.symm.trans (by kernel_rfl)
      have p6 : vs 6 = _ := hp 6 (by decide) (by decide)
      clear hp hl
      refine opgoal (_) (some 45) rfl rfl fun K hK => ?_
      obtain ⟨f0, f1⟩ := cs_cells (hA.out W (below2 HB4.out hS)).2
      refine Runs.mk ?_
      simp only [putAll]
      go_simp
      refine hK _ _ ?_ hS ((fun w => Below.refl _ w) W) _ rfl rfl
      first | rfl | go_simp | simp
    · -- 8: Op.call { callee := Callee.value (Operand.func 45), args := #[Operand.tmp 45], argTypes := #[55] }
      intro l hl vs W hS hR hp
      obtain rfl : l = [(0, 38), (1, 39), (2, 40), (3, 41), (4, 42), (6, 44), (7, 45)] := hl.symm.trans (by kernel_rfl)
      have p7 : vs 7 = _ := hp 7 (by decide) (by decide)
      clear hp hl
      refine opgoal (_) (some 46) rfl rfl fun K hK => ?_
      refine Runs.mk ?_
      simp only [putAll]
      go_simp
      refine (nodes_refs xs nA nn nc W (HN.out.below (below2 HB4.out hS)) hnn2.out).mono ?_
      rintro e w' ⟨he, hb⟩
      rw [hyc.out] at he
      subst he
      go_simp
      exact hK _ _ rfl (below2 hS hb) hb _ rfl rfl
    · -- 9: Op.binOp BinOp.add 9 (Operand.tmp 43) (Operand.tmp 46) 9
      intro l hl vs W hS hR hp
      obtain rfl : l = [(0, 38), (1, 39), (2, 40), (3, 41), (4, 42), (5, 43), (6, 44), (7, 45), (8, 46)] := hl.symm.trans (by kernel_rfl)
      have p5 : vs 5 = _ := hp 5 (by decide) (by decide)
      have p8 : vs 8 = _ := hp 8 (by decide) (by decide)
      clear hp hl
      refine opgoal (_) (some 47) rfl rfl fun K hK => ?_
      refine Runs.mk ?_
      simp only [putAll]
      go_simp
      refine hK _ _ ?_ hS ((fun w => Below.refl _ w) W) _ rfl rfl
      first | rfl | go_simp | simp
    · -- 10: Op.assign (Operand.tmp 47)
      intro l hl vs W hS hR hp
      obtain rfl : l = [(0, 38), (1, 39), (2, 40), (3, 41), (4, 42), (5, 43), (6, 44), (7, 45), (8, 46), (9, 47)] := hl.symm.trans (by kernel_rfl)
      have p9 : vs 9 = _ := hp 9 (by decide) (by decide)
      clear hp hl
      refine opgoal (_) (some 8) rfl rfl fun K hK => ?_
      refine Runs.mk ?_
      simp only [putAll]
      go_simp
      refine hK _ _ ?_ hS ((fun w => Below.refl _ w) W) _ rfl rfl
      first | rfl | go_simp | simp
  · intro l hl vs W hS hR hp
    obtain rfl : l = [(0, 38), (1, 39), (2, 40), (3, 41), (4, 42), (5, 43), (6, 44), (7, 45), (8, 46), (9, 47), (10, 8)] := hl.symm.trans (by kernel_rfl)
    have p0 : vs 0 = _ := hp 0 (by decide) (by decide)
    have p1 : vs 1 = _ := hp 1 (by decide) (by decide)
    have p2 : vs 2 = _ := hp 2 (by decide) (by decide)
    have p3 : vs 3 = _ := hp 3 (by decide) (by decide)
    have p4 : vs 4 = _ := hp 4 (by decide) (by decide)
    have p5 : vs 5 = _ := hp 5 (by decide) (by decide)
    have p6 : vs 6 = _ := hp 6 (by decide) (by decide)
    have p7 : vs 7 = _ := hp 7 (by decide) (by decide)
    have p8 : vs 8 = _ := hp 8 (by decide) (by decide)
    have p9 : vs 9 = _ := hp 9 (by decide) (by decide)
    have p10 : vs 10 = _ := hp 10 (by decide) (by decide)
    clear hp hl
    simp only [putAll_mk, setAll, List.setIfInBounds_toArray, List.set_cons_succ, List.set_cons_zero, p0, p1, p2, p3, p4, p5, p6, p7, p8, p9, p10]
    have HS := Lib.hid hS
    clear hS hR hS0
    rw [hcat.out]
    have H5 := H4.out.below HS.out
    obtain ⟨r4, hw4, hr4⟩ := H5.out
    have HR4 : Hid (∀ k, r4 = some k → w1.heap.size ≤ k) := Lib.hid (fun k hk => by simpa using hr4 k hk)
    have HBW := Lib.hid (H5.keep.below (Nat.le_refl _) (by simp))
    have HSt := Lib.hid (string_any b r4 bsx false W hw4.f hbl.out)
    rw [hsay.out] at HSt
    clear H5 hw4 hr4 H4
    go_wp2_with fail
    refine HSt.out.mono ?_
    rintro e w5 ⟨rfl, hf5, hk5⟩
    have HBW5 := Lib.hid (HBW.out.trans (hk5.below HBW.out.size (fun x hx => HR4.out x (by simpa using hx))))
    have HB5 := Lib.hid (below2 HB1.out HBW5.out)
    have HBad := Lib.hid (bad_any b r4 bsx false w5 hf5)
    clear hf5 hk5 HSt
    go_wp2_with fail
    refine HBad.out.mono ?_
    rintro e w6 ⟨rfl, hw56⟩
    obtain rfl := hw56
    obtain ⟨z1, z2⟩ := cs_cells (hA.out w5 HB5.out).2
    by_cases hi16 : 16 < ni
    case pos =>
      have hi16' : ¬ ni ≤ 16 := by omega
      go_wp2_with fail
      rw [htx.out]
      refine (newreader_rst _ w5).mono ?_
      rintro e w7 ⟨bi, br, rfl, hr7, hlb, hb7⟩
      have HLB := Lib.hid hlb
      have HB7 := Lib.hid (below2 HB5.out hb7)
      have HT := Lib.hid (tid_back bi br t1 t2 t3 ht1.out ht2.out ht3.out _ w7 hr7 hlen0.out)
      have HK7 := Lib.hid (Keep.refl [br] w7)
      clear z1 z2 hlb hb7 hr7
      go_wp2_with fail
      refine HT.out.mono ?_
      rintro e w8 ⟨rfl, hr8, hk8⟩
      have HK8 := Lib.hid hk8
      have HC8 := Lib.hid (items_none bi br (str (bigB ni 2 ++ R1), false) (str R1, true) w8 (by rw [hR0.out]; exact hr8) (many_many ni R1 hi16 hni2.out).1 (many_many ni R1 hi16 hni2.out).2 hlen1.out)
      clear hr8 hk8
      go_wp2_with fail
      refine HC8.out.mono ?_
      rintro e w9 ⟨A9, c9, rfl, hr9, hk9⟩
      have HK9 := Lib.hid (HK8.out.trans hk9)
      have HC9 := Lib.hid (nodes_none bi br _ _ w9 hr9 (many_broken (str R1)).1 (many_broken (str R1)).2 hlen2.out)
      clear hr9 hk9
      go_wp2_with fail
      refine HC9.out.mono ?_
      rintro e w10 ⟨A10, c10, rfl, hr10, hk10⟩
      have HK10 := Lib.hid (HK9.out.trans hk10)
      have HB10 := Lib.hid (HB7.out.trans (HK10.out.below HB7.out.size (fun x hx => by have := HLB.out; have := HB5.out.size; simp at hx; omega)))
      obtain ⟨z1, z2⟩ := cs_cells (hA.out w10 HB10.out).2
      have c0 := hr10.cell
      have HL := Lib.hid (left_any br (str R1) true w10 hr10.rd 0 rfl)
      have HE := Lib.hid (end_any br (str R1) true w10 hr10.rd 2 rfl)
      clear hr10 hk10
      go_wp2_with fail
      refine HL.out.mono ?_
      rintro e w11 ⟨rfl, hw11⟩
      obtain rfl := hw11
      go_wp2_with fail
      refine HE.out.mono ?_
      rintro e w12 ⟨rfl, hw12⟩
      obtain rfl := hw12
      go_wp2
      go_ret
      exact ⟨rfl, below2 hb0.out HB10.out⟩
    case neg =>
    have hi16' : ni ≤ 16 := by omega
    by_cases hn16 : 16 < nn
    case pos =>
      go_wp2_with fail
      rw [htx.out]
      refine (newreader_rst _ w5).mono ?_
      rintro e w7 ⟨bi, br, rfl, hr7, hlb, hb7⟩
      have HLB := Lib.hid hlb
      have HB7 := Lib.hid (below2 HB5.out hb7)
      have HT := Lib.hid (tid_back bi br t1 t2 t3 ht1.out ht2.out ht3.out _ w7 hr7 hlen0.out)
      clear z1 z2 hlb hb7 hr7
      go_wp2_with fail
      refine HT.out.mono ?_
      rintro e w8 ⟨rfl, hr8, hk8⟩
      have HK8 := Lib.hid hk8
      have HC8 := Lib.hid (items_few bi br ni l R2 w8 (by rw [hR1.out]; exact hr8) HIL.out hi16' HI.out.good (by rw [hR1.out]; exact hlenl1.out))
      clear hr8 hk8
      go_wp2_with fail
      refine HC8.out.mono ?_
      rintro e w9 ⟨A9, c9, rfl, hi9, ha9, hr9, hk9⟩
      have HK9 := Lib.hid (HK8.out.trans hk9)
      have HC9 := Lib.hid (nodes_none bi br (str (bigB nn 2 ++ R3), false) (str R3, true) w9 (by rw [hR2.out]; exact hr9) (many_many nn R3 hn16 hnn2.out).1 (many_many nn R3 hn16 hnn2.out).2 hlen3.out)
      clear hr9 hk9 hi9 ha9
      go_wp2_with fail
      refine HC9.out.mono ?_
      rintro e w10 ⟨A10, c10, rfl, hr10, hk10⟩
      have HK10 := Lib.hid (HK9.out.trans hk10)
      have HB10 := Lib.hid (HB7.out.trans (HK10.out.below HB7.out.size (fun x hx => by have := HLB.out; have := HB5.out.size; simp at hx; omega)))
      obtain ⟨z1, z2⟩ := cs_cells (hA.out w10 HB10.out).2
      have c0 := hr10.cell
      have HL := Lib.hid (left_any br (str R3) true w10 hr10.rd 0 rfl)
      have HE := Lib.hid (end_any br (str R3) true w10 hr10.rd 2 rfl)
      clear hr10 hk10
      go_wp2_with fail
      refine HL.out.mono ?_
      rintro e w11 ⟨rfl, hw11⟩
      obtain rfl := hw11
      go_wp2_with fail
      refine HE.out.mono ?_
      rintro e w12 ⟨rfl, hw12⟩
      obtain rfl := hw12
      go_wp2
      go_ret
      exact ⟨rfl, below2 hb0.out HB10.out⟩
    case neg =>
      have hn16' : nn ≤ 16 := by omega
      go_wp2_with fail
      rw [htx.out]
      refine (newreader_rst _ w5).mono ?_
      rintro e w7 ⟨bi, br, rfl, hr7, hlb, hb7⟩
      have HB7 := Lib.hid (below2 HB5.out hb7)
      obtain ⟨q0, hq0⟩ : ∃ q, Hid ((str (numsB [t1, t2, t3] ++ R0), false) = q) := ⟨_, Lib.hid rfl⟩
      obtain ⟨q1, hq1⟩ : ∃ q, Hid ((str R0, false) = q) := ⟨_, Lib.hid rfl⟩
      obtain ⟨q2, hq2⟩ : ∃ q, Hid ((str R2, false) = q) := ⟨_, Lib.hid rfl⟩
      obtain ⟨q3, hq3⟩ : ∃ q, Hid ((str more.data.toList, false) = q) := ⟨_, Lib.hid rfl⟩
      have HTid : Hid (∀ W, Rst bi br W q0 → Calls Try.prog 47 #[.pointer (some ⟨bi, 0, none⟩)] W fun e w' => e = .returned (.agg #[.int .i64 t1, .int .i64 t2, .int .i64 t3]) ∧ Rst bi br w' q1 ∧ Keep [br] W w') := Lib.hid (fun W h => by
        rw [← hq0.out] at h; rw [← hq1.out]; exact tid_back bi br t1 t2 t3 ht1.out ht2.out ht3.out _ W h hlen0.out)
      have HItems : Hid (∀ W, Rst bi br W q1 → Calls Try.prog 48 #[.pointer (some ⟨bi, 0, none⟩)] W fun e w' => ∃ A c, e = .returned (.slice A ni c) ∧ Ims w' A ni l ∧ (∀ o, A = some o → W.heap.size ≤ o.block) ∧ Rst bi br w' q2 ∧ Keep [br] W w') := Lib.hid (fun W h => by
        rw [← hq1.out] at h; rw [← hq2.out]; exact items_few bi br ni l R2 W (by rw [hR1.out]; exact h) HIL.out hi16' HI.out.good (by rw [hR1.out]; exact hlenl1.out))
      have HNodes : Hid (∀ W, Rst bi br W q2 → Calls Try.prog 49 #[.pointer (some ⟨bi, 0, none⟩)] W fun e w' => ∃ A c, e = .returned (.slice A nn c) ∧ Rd w' A nn (xs.map (Value.int .i64)) ∧ Rst bi br w' q3 ∧ Keep [br] W w') := Lib.hid (fun W h => by
        rw [← hq2.out, ← hR2.out, ← hR3.out] at h; rw [← hq3.out]; exact nodes_few bi br nn xs _ W h HNL.out hn16' hxg.out (by rw [hR3.out]; exact hlenl3.out))
      have HLeft : Hid (∀ W, Rst bi br W q3 → Calls Try.prog 24 #[.pointer (some ⟨br, 0, none⟩)] W fun e w' => e = .returned (.int .i64 (more.size : Nat)) ∧ W = w') := Lib.hid (fun W h => by
        rw [← hq3.out] at h; exact left_any br (str more.data.toList) false W h.rd more.size (by show (str more.data.toList).size = _; rw [str_size, Array.length_toList]; rfl))
      have hS0 : Rst bi br w7.drew (pick3 false false false q0 q1 q2 q3) := by
        show Rst bi br w7.drew q0
        rw [← hq0.out]; exact hr7.below (below_drew (Below.refl _ _))
      have hbox : Hid (∀ W, Keep [br] w7.drew W → W.heap[g]? = some (.cells #[.int .i64 t1, .int .i64 t2, .int .i64 t3] 51 (0, 0)) ∧ W.heap[g + 1]? = some (.cells #[.slice iA ni ic, .slice nA nn nc] 57 (0, 0))) := Lib.hid (fun W hk => by
        exact hA.out W (HB7.out.drew.trans (hk.below HB7.out.size (fun x hx => by have := hlb; have := HB5.out.size; simp at hx; omega))))
      have hIW : Hid (∀ W, Keep [br] w7.drew W → Ims W iA ni l) := Lib.hid (fun W hk => HI.out.below (HB7.out.drew.trans (hk.below HB7.out.size (fun x hx => by have := hlb; have := HB5.out.size; simp at hx; omega))))
      have hNW : Hid (∀ W, Keep [br] w7.drew W → Rd W nA nn (xs.map (Value.int .i64))) := Lib.hid (fun W hk => HN.out.below (HB7.out.drew.trans (hk.below HB7.out.size (fun x hx => by have := hlb; have := HB5.out.size; simp at hx; omega))))
      have hcell : Hid (∀ W, Keep [br] w7.drew W → W.cell? ⟨bi, 0, none⟩ = some (.pointer (some ⟨br, 0, none⟩))) := Lib.hid (fun W hk => by
        rw [cell_of_row _ _ _ _ _ _ (keep_block hk (hr7.below (below_drew (Below.refl _ _))).hbi (by simpa using hr7.ne))]; rfl)
      have HFin : Hid (∀ W, Keep [br] w7.drew W → Below w.heap.size w W) := Lib.hid (fun W hk => below2 hb0.out (HB7.out.drew.trans (hk.below HB7.out.size (fun x hx => by have := hlb; have := HB5.out.size; simp at hx; omega))))
      have hteq : ∀ w, (Op.equalIn 10000 51 (.agg #[.int .i64 t1, .int .i64 t2, .int .i64 t3]) (.agg #[.int .i64 t1, .int .i64 t2, .int .i64 t3])).run Try.prog w = .ok true w := fun w => by rw [tid_eq]; simp [tidB]
      have htg := tid_guard
      clear z1 z2 hlb hb7 hr7
      go_wp2_with fail
      refine wp_region_done (fun d => fun W => Rst bi br W (pick3 (d 1) (d 6) (d 13) q0 q1 q2 q3)) (fun u v => Keep [br] u v) (fun k u v => (k = 1 → (fun u v => Keep [br] u v) u v) ∧ (k = 6 → (fun u v => Keep [br] u v) u v) ∧ (k = 13 → (fun u v => Keep [br] u v) u v) ∧ (¬ k = 1 → ¬ k = 6 → ¬ k = 13 → (fun u v => Below u.heap.size u v) u v)) (fun a i => match i with
          | 0 => (fun v _ => v = .pointer (some ⟨bi, 0, none⟩))
          | 1 => (fun v _ => v = .agg #[.int .i64 t1, .int .i64 t2, .int .i64 t3])
          | 2 => (fun v _ => v = .agg #[.int .i64 t1, .int .i64 t2, .int .i64 t3])
          | 3 => (fun v _ => v = .bool true)
          | 4 => (fun v _ => v = .bool true)
          | 5 => (fun v _ => v = .pointer (some ⟨bi, 0, none⟩))
          | 6 => (fun v W => ∃ A c, v = .slice A ni c ∧ Ims W A ni l ∧ (∀ o, A = some o → o.block ≠ br))
          | 7 => (fun v _ => v = .pointer (some ⟨g + 1, 0, none⟩))
          | 8 => (fun v _ => v = .slice iA ni ic)
          | 9 => (fun v _ => v = .bool true)
          | 10 => (fun v _ => v = .bool true)
          | 11 => (fun v _ => v = .bool true)
          | 12 => (fun v _ => v = .pointer (some ⟨bi, 0, none⟩))
          | 13 => (fun v W => ∃ A c, v = .slice A nn c ∧ Rd W A nn (xs.map (Value.int .i64)))
          | 14 => (fun v _ => v = .pointer (some ⟨g + 1, 1, none⟩))
          | 15 => (fun v _ => v = .slice nA nn nc)
          | 16 => (fun v _ => v = .bool true)
          | 17 => (fun v _ => v = .bool true)
          | 18 => (fun v _ => v = .bool true)
          | 19 => (fun v _ => v = .pointer (some ⟨bi, 0, none⟩))
          | 20 => (fun v _ => v = .pointer (some ⟨bi, 0, none⟩))
          | 21 => (fun v _ => v = .pointer (some ⟨bi, 0, none⟩))
          | 22 => (fun v _ => v = .pointer (some ⟨br, 0, none⟩))
          | 23 => (fun v _ => v = .int .i64 (more.size : Nat))
          | 24 => (fun v _ => v = .string more)
          | 25 => (fun v _ => v = .int .i64 (more.size : Nat))
          | 26 => (fun v _ => v = .bool true)
          | 27 => (fun v _ => v = .bool true)
          | 28 => (fun v _ => v = .bool true)
          | _ => (fun _ _ => True)) #[0, 1, 0, 7, 15, 31, 63, 31, 159, 511, 1023, 2047, 4095, 8191, 4095, 20479, 65535, 131071, 262143, 524287, 1048575, 2097151, 4194303, 8388607, 524287, 17301503, 67108863, 134217727, 268435455] #[0, 1, 0, 6, 8, 16, 48, 16, 144, 336, 528, 1024, 2048, 6144, 2048, 18432, 43008, 67584, 131072, 262144, 786432, 1310720, 2359296, 4456448, 262144, 17039360, 42205184, 67371008, 134217728] 536862655 (by kernel_rfl) 29 rfl (fun m hm => by subst hm; kernel_rfl) (by kernel_rfl) (fun w => Keep.refl _ w) (fun u v w h1 h2 => h1.trans h2) ?_ ?_ (hS0) ?_ ?_
      · intro k u v hk hr
        by_cases hs1 : k = 1
        · have h := hr.1 hs1; exact h
        by_cases hs6 : k = 6
        · have h := hr.2.1 hs6; exact h
        by_cases hs13 : k = 13
        · have h := hr.2.2.1 hs13; exact h
        have h := hr.2.2.2 hs1 hs6 hs13; exact Keep.of_below h
      · intro i hi
        rcases (by omega : i = 0 ∨ i = 1 ∨ i = 2 ∨ i = 3 ∨ i = 4 ∨ i = 5 ∨ i = 6 ∨ i = 7 ∨ i = 8 ∨ i = 9 ∨ i = 10 ∨ i = 11 ∨ i = 12 ∨ i = 13 ∨ i = 14 ∨ i = 15 ∨ i = 16 ∨ i = 17 ∨ i = 18 ∨ i = 19 ∨ i = 20 ∨ i = 21 ∨ i = 22 ∨ i = 23 ∨ i = 24 ∨ i = 25 ∨ i = 26 ∨ i = 27 ∨ i = 28) with rfl | rfl | rfl | rfl | rfl | rfl | rfl | rfl | rfl | rfl | rfl | rfl | rfl | rfl | rfl | rfl | rfl | rfl | rfl | rfl | rfl | rfl | rfl | rfl | rfl | rfl | rfl | rfl | rfl
        · intro k hk y hy hyt v w w' h hr
          exact h
        · intro k hk y hy hyt v w w' h hr
          exact h
        · intro k hk y hy hyt v w w' h hr
          exact h
        · intro k hk y hy hyt v w w' h hr
          exact h
        · intro k hk y hy hyt v w w' h hr
          exact h
        · intro k hk y hy hyt v w w' h hr
          exact h
        · intro k hk y hy hyt v w w' h hr
          by_cases hs1 : k = 1
          · have hr0 := hr.1 hs1
            subst hs1
            exact absurd (hy.trans hyt) (ne_true_of_eq_false (by kernel_rfl))
          by_cases hs6 : k = 6
          · have hr0 := hr.2.1 hs6
            subst hs6
            exact absurd (hy.trans hyt) (ne_true_of_eq_false (by kernel_rfl))
          by_cases hs13 : k = 13
          · have hr0 := hr.2.2.1 hs13
            subst hs13
            exact absurd (hy.trans hyt) (ne_true_of_eq_false (by kernel_rfl))
          have hr := hr.2.2.2 hs1 hs6 hs13
          obtain ⟨A, c, h1, h2, h3⟩ := h; exact ⟨A, c, h1, h2.below hr, h3⟩
        · intro k hk y hy hyt v w w' h hr
          exact h
        · intro k hk y hy hyt v w w' h hr
          exact h
        · intro k hk y hy hyt v w w' h hr
          exact h
        · intro k hk y hy hyt v w w' h hr
          exact h
        · intro k hk y hy hyt v w w' h hr
          exact h
        · intro k hk y hy hyt v w w' h hr
          exact h
        · intro k hk y hy hyt v w w' h hr
          by_cases hs1 : k = 1
          · have hr0 := hr.1 hs1
            subst hs1
            exact absurd (hy.trans hyt) (ne_true_of_eq_false (by kernel_rfl))
          by_cases hs6 : k = 6
          · have hr0 := hr.2.1 hs6
            subst hs6
            exact absurd (hy.trans hyt) (ne_true_of_eq_false (by kernel_rfl))
          by_cases hs13 : k = 13
          · have hr0 := hr.2.2.1 hs13
            subst hs13
            exact absurd (hy.trans hyt) (ne_true_of_eq_false (by kernel_rfl))
          have hr := hr.2.2.2 hs1 hs6 hs13
          obtain ⟨A, c, h1, h2⟩ := h; exact ⟨A, c, h1, h2.below hr⟩
        · intro k hk y hy hyt v w w' h hr
          exact h
        · intro k hk y hy hyt v w w' h hr
          exact h
        · intro k hk y hy hyt v w w' h hr
          exact h
        · intro k hk y hy hyt v w w' h hr
          exact h
        · intro k hk y hy hyt v w w' h hr
          exact h
        · intro k hk y hy hyt v w w' h hr
          exact h
        · intro k hk y hy hyt v w w' h hr
          exact h
        · intro k hk y hy hyt v w w' h hr
          exact h
        · intro k hk y hy hyt v w w' h hr
          exact h
        · intro k hk y hy hyt v w w' h hr
          exact h
        · intro k hk y hy hyt v w w' h hr
          exact h
        · intro k hk y hy hyt v w w' h hr
          exact h
        · intro k hk y hy hyt v w w' h hr
          exact h
        · intro k hk y hy hyt v w w' h hr
          exact h
        · intro k hk y hy hyt v w w' h hr
          exact h
      · intro i hi
        rcases (by omega : i = 0 ∨ i = 1 ∨ i = 2 ∨ i = 3 ∨ i = 4 ∨ i = 5 ∨ i = 6 ∨ i = 7 ∨ i = 8 ∨ i = 9 ∨ i = 10 ∨ i = 11 ∨ i = 12 ∨ i = 13 ∨ i = 14 ∨ i = 15 ∨ i = 16 ∨ i = 17 ∨ i = 18 ∨ i = 19 ∨ i = 20 ∨ i = 21 ∨ i = 22 ∨ i = 23 ∨ i = 24 ∨ i = 25 ∨ i = 26 ∨ i = 27 ∨ i = 28) with rfl | rfl | rfl | rfl | rfl | rfl | rfl | rfl | rfl | rfl | rfl | rfl | rfl | rfl | rfl | rfl | rfl | rfl | rfl | rfl | rfl | rfl | rfl | rfl | rfl | rfl | rfl | rfl | rfl
        · -- 0: Op.move (Operand.tmp 12)
          intro l hl vs W dn e1 e2 e3 hS hR hp
          have f1 : dn 1 = false := e3 1 (by kernel_rfl)
          have f6 : dn 6 = false := e3 6 (by kernel_rfl)
          have f13 : dn 13 = false := e3 13 (by kernel_rfl)
          replace hS : (fun W => Rst bi br W (pick3 (dn 1) (dn 6) (dn 13) q0 q1 q2 q3)) W := hS
          rw [f1, f6, f13] at hS
          have g1 : (dn 1 || ((0 : Nat) == 1)) = false := by rw [f1]; rfl
          have g6 : (dn 6 || ((0 : Nat) == 6)) = false := by rw [f6]; rfl
          have g13 : (dn 13 || ((0 : Nat) == 13)) = false := by rw [f13]; rfl
          refine OpGoal.imp (S1 := fun W => Rst bi br W (pick3 false false false q0 q1 q2 q3)) (fun W' h => ?_) ?_
          · show (fun W => Rst bi br W (pick3 (dn 1 || ((0 : Nat) == 1)) (dn 6 || ((0 : Nat) == 6)) (dn 13 || ((0 : Nat) == 13)) q0 q1 q2 q3)) W'
            rw [g1, g6, g13]
            exact h
          clear g1 g6 g13 e1 e2 e3
          obtain rfl : l = [] := hl.symm.trans (by kernel_rfl)
          clear hp hl
          refine opgoal (_) (some 115) rfl rfl fun K hK => ?_
          refine Runs.mk ?_
          simp only [putAll]
          go_simp
          refine hK _ _ ?_ hS ⟨fun h => absurd h (by decide), fun h => absurd h (by decide), fun h => absurd h (by decide), fun h1 h6 h13 => ((fun w => Below.refl _ w) W)⟩ _ rfl rfl
          first | rfl | go_simp | simp
        · -- 1: Op.call { callee := Callee.value (Operand.func 47), args := #[Operand.tmp 115], argTypes := #[72] }
          intro l hl vs W dn e1 e2 e3 hS hR hp
          have f1 : dn 1 = false := e1
          have f6 : dn 6 = false := e3 6 (by kernel_rfl)
          have f13 : dn 13 = false := e3 13 (by kernel_rfl)
          replace hS : (fun W => Rst bi br W (pick3 (dn 1) (dn 6) (dn 13) q0 q1 q2 q3)) W := hS
          rw [f1, f6, f13] at hS
          have g1 : (dn 1 || ((1 : Nat) == 1)) = true := by rw [f1]; rfl
          have g6 : (dn 6 || ((1 : Nat) == 6)) = false := by rw [f6]; rfl
          have g13 : (dn 13 || ((1 : Nat) == 13)) = false := by rw [f13]; rfl
          refine OpGoal.imp (S1 := fun W => Rst bi br W (pick3 true false false q0 q1 q2 q3)) (fun W' h => ?_) ?_
          · show (fun W => Rst bi br W (pick3 (dn 1 || ((1 : Nat) == 1)) (dn 6 || ((1 : Nat) == 6)) (dn 13 || ((1 : Nat) == 13)) q0 q1 q2 q3)) W'
            rw [g1, g6, g13]
            exact h
          clear g1 g6 g13 e1 e2 e3
          obtain rfl : l = [(0, 115)] := hl.symm.trans (by kernel_rfl)
          have p0 : vs 0 = _ := hp 0 (by decide) (by decide)
          clear hp hl
          refine opgoal (_) (some 116) rfl rfl fun K hK => ?_
          refine Runs.mk ?_
          simp only [putAll]
          go_simp
          refine (HTid.out W hS).mono ?_
          rintro e w' ⟨rfl, hr, hk⟩
          go_simp
          exact hK _ _ rfl hr ⟨fun _ => hk, fun h => absurd h (by decide), fun h => absurd h (by decide), fun h1 h6 h13 => absurd rfl h1⟩ _ rfl rfl
        · -- 2: Op.load 51 (Operand.tmp 3)
          intro l hl vs W dn e1 e2 e3 hS hR hp
          have f1 : dn 1 = dn 1 := rfl
          have f6 : dn 6 = false := e3 6 (by kernel_rfl)
          have f13 : dn 13 = false := e3 13 (by kernel_rfl)
          replace hS : (fun W => Rst bi br W (pick3 (dn 1) (dn 6) (dn 13) q0 q1 q2 q3)) W := hS
          rw [f6, f13] at hS
          have g1 : (dn 1 || ((2 : Nat) == 1)) = dn 1 := Bool.or_false _
          have g6 : (dn 6 || ((2 : Nat) == 6)) = false := by rw [f6]; rfl
          have g13 : (dn 13 || ((2 : Nat) == 13)) = false := by rw [f13]; rfl
          refine OpGoal.imp (S1 := fun W => Rst bi br W (pick3 (dn 1) false false q0 q1 q2 q3)) (fun W' h => ?_) ?_
          · show (fun W => Rst bi br W (pick3 (dn 1 || ((2 : Nat) == 1)) (dn 6 || ((2 : Nat) == 6)) (dn 13 || ((2 : Nat) == 13)) q0 q1 q2 q3)) W'
            rw [g1, g6, g13]
            exact h
          clear g1 g6 g13 e1 e2 e3
          obtain rfl : l = [] := hl.symm.trans (by kernel_rfl)
          clear hp hl
          refine opgoal (_) (some 117) rfl rfl fun K hK => ?_
          obtain ⟨f0, f1, f2⟩ := td_cells (hbox.out W hR).1
          refine Runs.mk ?_
          simp only [putAll]
          go_simp
          refine hK _ _ ?_ hS ⟨fun h => absurd h (by decide), fun h => absurd h (by decide), fun h => absurd h (by decide), fun h1 h6 h13 => ((fun w => Below.refl _ w) W)⟩ _ rfl rfl
          first | rfl | go_simp | simp
        · -- 3: Op.binOp BinOp.eql 51 (Operand.tmp 116) (Operand.tmp 117) 51
          intro l hl vs W dn e1 e2 e3 hS hR hp
          have f1 : dn 1 = true := e2 1 (by kernel_rfl)
          have f6 : dn 6 = false := e3 6 (by kernel_rfl)
          have f13 : dn 13 = false := e3 13 (by kernel_rfl)
          replace hS : (fun W => Rst bi br W (pick3 (dn 1) (dn 6) (dn 13) q0 q1 q2 q3)) W := hS
          rw [f1, f6, f13] at hS
          have g1 : (dn 1 || ((3 : Nat) == 1)) = true := by rw [f1]; rfl
          have g6 : (dn 6 || ((3 : Nat) == 6)) = false := by rw [f6]; rfl
          have g13 : (dn 13 || ((3 : Nat) == 13)) = false := by rw [f13]; rfl
          refine OpGoal.imp (S1 := fun W => Rst bi br W (pick3 true false false q0 q1 q2 q3)) (fun W' h => ?_) ?_
          · show (fun W => Rst bi br W (pick3 (dn 1 || ((3 : Nat) == 1)) (dn 6 || ((3 : Nat) == 6)) (dn 13 || ((3 : Nat) == 13)) q0 q1 q2 q3)) W'
            rw [g1, g6, g13]
            exact h
          clear g1 g6 g13 e1 e2 e3
          obtain rfl : l = [(0, 115), (1, 116), (2, 117)] := hl.symm.trans (by kernel_rfl)
          have p1 : vs 1 = _ := hp 1 (by decide) (by decide)
          have p2 : vs 2 = _ := hp 2 (by decide) (by decide)
          clear hp hl
          refine opgoal (_) (some 118) rfl rfl fun K hK => ?_
          refine Runs.mk ?_
          simp only [putAll]
          go_simp
          refine hK _ _ ?_ hS ⟨fun h => absurd h (by decide), fun h => absurd h (by decide), fun h => absurd h (by decide), fun h1 h6 h13 => ((fun w => Below.refl _ w) W)⟩ _ rfl rfl
          first | rfl | go_simp | simp
        · -- 4: Op.move (Operand.tmp 118)
          intro l hl vs W dn e1 e2 e3 hS hR hp
          have f1 : dn 1 = true := e2 1 (by kernel_rfl)
          have f6 : dn 6 = false := e3 6 (by kernel_rfl)
          have f13 : dn 13 = false := e3 13 (by kernel_rfl)
          replace hS : (fun W => Rst bi br W (pick3 (dn 1) (dn 6) (dn 13) q0 q1 q2 q3)) W := hS
          rw [f1, f6, f13] at hS
          have g1 : (dn 1 || ((4 : Nat) == 1)) = true := by rw [f1]; rfl
          have g6 : (dn 6 || ((4 : Nat) == 6)) = false := by rw [f6]; rfl
          have g13 : (dn 13 || ((4 : Nat) == 13)) = false := by rw [f13]; rfl
          refine OpGoal.imp (S1 := fun W => Rst bi br W (pick3 true false false q0 q1 q2 q3)) (fun W' h => ?_) ?_
          · show (fun W => Rst bi br W (pick3 (dn 1 || ((4 : Nat) == 1)) (dn 6 || ((4 : Nat) == 6)) (dn 13 || ((4 : Nat) == 13)) q0 q1 q2 q3)) W'
            rw [g1, g6, g13]
            exact h
          clear g1 g6 g13 e1 e2 e3
          obtain rfl : l = [(0, 115), (1, 116), (2, 117), (3, 118)] := hl.symm.trans (by kernel_rfl)
          have p3 : vs 3 = _ := hp 3 (by decide) (by decide)
          clear hp hl
          refine opgoal (_) (some 119) rfl rfl fun K hK => ?_
          refine Runs.mk ?_
          simp only [putAll]
          go_simp
          refine hK _ _ ?_ hS ⟨fun h => absurd h (by decide), fun h => absurd h (by decide), fun h => absurd h (by decide), fun h1 h6 h13 => ((fun w => Below.refl _ w) W)⟩ _ rfl rfl
          first | rfl | go_simp | simp
        · -- 5: Op.move (Operand.tmp 12)  [(4, 'true')]
          intro l hl vs W dn e1 e2 e3 hS hR hp
          have f1 : dn 1 = true := e2 1 (by kernel_rfl)
          have f6 : dn 6 = false := e3 6 (by kernel_rfl)
          have f13 : dn 13 = false := e3 13 (by kernel_rfl)
          replace hS : (fun W => Rst bi br W (pick3 (dn 1) (dn 6) (dn 13) q0 q1 q2 q3)) W := hS
          rw [f1, f6, f13] at hS
          have g1 : (dn 1 || ((5 : Nat) == 1)) = true := by rw [f1]; rfl
          have g6 : (dn 6 || ((5 : Nat) == 6)) = false := by rw [f6]; rfl
          have g13 : (dn 13 || ((5 : Nat) == 13)) = false := by rw [f13]; rfl
          refine OpGoal.imp (S1 := fun W => Rst bi br W (pick3 true false false q0 q1 q2 q3)) (fun W' h => ?_) ?_
          · show (fun W => Rst bi br W (pick3 (dn 1 || ((5 : Nat) == 1)) (dn 6 || ((5 : Nat) == 6)) (dn 13 || ((5 : Nat) == 13)) q0 q1 q2 q3)) W'
            rw [g1, g6, g13]
            exact h
          clear g1 g6 g13 e1 e2 e3
          obtain rfl : l = [(0, 115), (1, 116), (2, 117), (3, 118), (4, 119)] := hl.symm.trans (by kernel_rfl)
          have p4 : vs 4 = _ := hp 4 (by decide) (by decide)
          clear hp hl
          refine opgoal (_) (some 120) rfl rfl fun K hK => ?_
          refine Runs.mk ?_
          simp only [putAll]
          go_simp
          refine hK _ _ ?_ hS ⟨fun h => absurd h (by decide), fun h => absurd h (by decide), fun h => absurd h (by decide), fun h1 h6 h13 => ((fun w => Below.refl _ w) W)⟩ _ rfl rfl
          first | rfl | go_simp | simp
        · -- 6: Op.call { callee := Callee.value (Operand.func 48), args := #[Operand.tmp 120], argTypes := #[72] }  [(4, 'true')]
          intro l hl vs W dn e1 e2 e3 hS hR hp
          have f1 : dn 1 = true := e2 1 (by kernel_rfl)
          have f6 : dn 6 = false := e1
          have f13 : dn 13 = false := e3 13 (by kernel_rfl)
          replace hS : (fun W => Rst bi br W (pick3 (dn 1) (dn 6) (dn 13) q0 q1 q2 q3)) W := hS
          rw [f1, f6, f13] at hS
          have g1 : (dn 1 || ((6 : Nat) == 1)) = true := by rw [f1]; rfl
          have g6 : (dn 6 || ((6 : Nat) == 6)) = true := by rw [f6]; rfl
          have g13 : (dn 13 || ((6 : Nat) == 13)) = false := by rw [f13]; rfl
          refine OpGoal.imp (S1 := fun W => Rst bi br W (pick3 true true false q0 q1 q2 q3)) (fun W' h => ?_) ?_
          · show (fun W => Rst bi br W (pick3 (dn 1 || ((6 : Nat) == 1)) (dn 6 || ((6 : Nat) == 6)) (dn 13 || ((6 : Nat) == 13)) q0 q1 q2 q3)) W'
            rw [g1, g6, g13]
            exact h
          clear g1 g6 g13 e1 e2 e3
          obtain rfl : l = [(0, 115), (1, 116), (2, 117), (3, 118), (4, 119), (5, 120)] := hl.symm.trans (by kernel_rfl)
          have p4 : vs 4 = _ := hp 4 (by decide) (by decide)
          have p5 : vs 5 = _ := hp 5 (by decide) (by decide)
          clear hp hl
          refine opgoal (_) (some 121) rfl rfl fun K hK => ?_
          refine Runs.mk ?_
          simp only [putAll]
          go_simp
          refine (HItems.out W hS).mono ?_
          rintro e w' ⟨A, c, rfl, hi, hA', hr, hk⟩
          go_simp
          exact hK _ _ ⟨A, c, rfl, hi, fun o ho => by have := hA' o ho; have := hS.rd.lt; omega⟩ hr ⟨fun h => absurd h (by decide), fun _ => hk, fun h => absurd h (by decide), fun h1 h6 h13 => absurd rfl h6⟩ _ rfl rfl
        · -- 7: Op.fieldAddr 57 (Operand.tmp 4) 0  [(4, 'true')]
          intro l hl vs W dn e1 e2 e3 hS hR hp
          have f1 : dn 1 = true := e2 1 (by kernel_rfl)
          have f6 : dn 6 = dn 6 := rfl
          have f13 : dn 13 = false := e3 13 (by kernel_rfl)
          replace hS : (fun W => Rst bi br W (pick3 (dn 1) (dn 6) (dn 13) q0 q1 q2 q3)) W := hS
          rw [f1, f13] at hS
          have g1 : (dn 1 || ((7 : Nat) == 1)) = true := by rw [f1]; rfl
          have g6 : (dn 6 || ((7 : Nat) == 6)) = dn 6 := Bool.or_false _
          have g13 : (dn 13 || ((7 : Nat) == 13)) = false := by rw [f13]; rfl
          refine OpGoal.imp (S1 := fun W => Rst bi br W (pick3 true (dn 6) false q0 q1 q2 q3)) (fun W' h => ?_) ?_
          · show (fun W => Rst bi br W (pick3 (dn 1 || ((7 : Nat) == 1)) (dn 6 || ((7 : Nat) == 6)) (dn 13 || ((7 : Nat) == 13)) q0 q1 q2 q3)) W'
            rw [g1, g6, g13]
            exact h
          clear g1 g6 g13 e1 e2 e3
          obtain rfl : l = [(0, 115), (1, 116), (2, 117), (3, 118), (4, 119)] := hl.symm.trans (by kernel_rfl)
          have p4 : vs 4 = _ := hp 4 (by decide) (by decide)
          clear hp hl
          refine opgoal (_) (some 122) rfl rfl fun K hK => ?_
          refine Runs.mk ?_
          simp only [putAll]
          go_simp
          refine hK _ _ ?_ hS ⟨fun h => absurd h (by decide), fun h => absurd h (by decide), fun h => absurd h (by decide), fun h1 h6 h13 => ((fun w => Below.refl _ w) W)⟩ _ rfl rfl
          first | rfl | go_simp | simp
        · -- 8: Op.load 54 (Operand.tmp 122)  [(4, 'true')]
          intro l hl vs W dn e1 e2 e3 hS hR hp
          have f1 : dn 1 = true := e2 1 (by kernel_rfl)
          have f6 : dn 6 = dn 6 := rfl
          have f13 : dn 13 = false := e3 13 (by kernel_rfl)
          replace hS : (fun W => Rst bi br W (pick3 (dn 1) (dn 6) (dn 13) q0 q1 q2 q3)) W := hS
          rw [f1, f13] at hS
          have g1 : (dn 1 || ((8 : Nat) == 1)) = true := by rw [f1]; rfl
          have g6 : (dn 6 || ((8 : Nat) == 6)) = dn 6 := Bool.or_false _
          have g13 : (dn 13 || ((8 : Nat) == 13)) = false := by rw [f13]; rfl
          refine OpGoal.imp (S1 := fun W => Rst bi br W (pick3 true (dn 6) false q0 q1 q2 q3)) (fun W' h => ?_) ?_
          · show (fun W => Rst bi br W (pick3 (dn 1 || ((8 : Nat) == 1)) (dn 6 || ((8 : Nat) == 6)) (dn 13 || ((8 : Nat) == 13)) q0 q1 q2 q3)) W'
            rw [g1, g6, g13]
            exact h
          clear g1 g6 g13 e1 e2 e3
          obtain rfl : l = [(0, 115), (1, 116), (2, 117), (3, 118), (4, 119), (7, 122)] := hl.symm.trans (by kernel_rfl)
          have p4 : vs 4 = _ := hp 4 (by decide) (by decide)
          have p7 : vs 7 = _ := hp 7 (by decide) (by decide)
          clear hp hl
          refine opgoal (_) (some 123) rfl rfl fun K hK => ?_
          obtain ⟨f0, f1⟩ := cs_cells (hbox.out W hR).2
          refine Runs.mk ?_
          simp only [putAll]
          go_simp
          refine hK _ _ ?_ hS ⟨fun h => absurd h (by decide), fun h => absurd h (by decide), fun h => absurd h (by decide), fun h1 h6 h13 => ((fun w => Below.refl _ w) W)⟩ _ rfl rfl
          first | rfl | go_simp | simp
        · -- 9: Op.call { callee := Callee.value (Operand.func 50), args := #[Operand.tmp 121, Operand.tmp 123], argTypes := #[54, 54] }  [(4, 'true')]
          intro l hl vs W dn e1 e2 e3 hS hR hp
          have f1 : dn 1 = true := e2 1 (by kernel_rfl)
          have f6 : dn 6 = true := e2 6 (by kernel_rfl)
          have f13 : dn 13 = false := e3 13 (by kernel_rfl)
          replace hS : (fun W => Rst bi br W (pick3 (dn 1) (dn 6) (dn 13) q0 q1 q2 q3)) W := hS
          rw [f1, f6, f13] at hS
          have g1 : (dn 1 || ((9 : Nat) == 1)) = true := by rw [f1]; rfl
          have g6 : (dn 6 || ((9 : Nat) == 6)) = true := by rw [f6]; rfl
          have g13 : (dn 13 || ((9 : Nat) == 13)) = false := by rw [f13]; rfl
          refine OpGoal.imp (S1 := fun W => Rst bi br W (pick3 true true false q0 q1 q2 q3)) (fun W' h => ?_) ?_
          · show (fun W => Rst bi br W (pick3 (dn 1 || ((9 : Nat) == 1)) (dn 6 || ((9 : Nat) == 6)) (dn 13 || ((9 : Nat) == 13)) q0 q1 q2 q3)) W'
            rw [g1, g6, g13]
            exact h
          clear g1 g6 g13 e1 e2 e3
          obtain rfl : l = [(0, 115), (1, 116), (2, 117), (3, 118), (4, 119), (5, 120), (6, 121), (7, 122), (8, 123)] := hl.symm.trans (by kernel_rfl)
          have p4 : vs 4 = _ := hp 4 (by decide) (by decide)
          have p6 : (fun v W => ∃ A c, v = .slice A ni c ∧ Ims W A ni l ∧ (∀ o, A = some o → o.block ≠ br)) (vs 6) W := hp 6 (by decide) (by decide)
          dsimp only at p6
          have p8 : vs 8 = _ := hp 8 (by decide) (by decide)
          clear hp hl
          obtain ⟨A, c, q6, i6, n6⟩ := p6
          refine opgoal (_) (some 124) rfl rfl fun K hK => ?_
          refine Runs.mk ?_
          simp only [putAll]
          go_simp
          refine (same_items A iA ni c ic l W i6 (hIW.out W hR)).mono ?_
          rintro e w' ⟨rfl, hb⟩
          go_simp
          exact hK _ _ rfl (hS.below hb) ⟨fun h => absurd h (by decide), fun h => absurd h (by decide), fun h => absurd h (by decide), fun _ _ _ => hb⟩ _ rfl rfl
        · -- 10: Op.pick (Operand.tmp 119) (Operand.tmp 124) (Operand.const (Value.bool false))
          intro l hl vs W dn e1 e2 e3 hS hR hp
          have f1 : dn 1 = true := e2 1 (by kernel_rfl)
          have f6 : dn 6 = true := e2 6 (by kernel_rfl)
          have f13 : dn 13 = false := e3 13 (by kernel_rfl)
          replace hS : (fun W => Rst bi br W (pick3 (dn 1) (dn 6) (dn 13) q0 q1 q2 q3)) W := hS
          rw [f1, f6, f13] at hS
          have g1 : (dn 1 || ((10 : Nat) == 1)) = true := by rw [f1]; rfl
          have g6 : (dn 6 || ((10 : Nat) == 6)) = true := by rw [f6]; rfl
          have g13 : (dn 13 || ((10 : Nat) == 13)) = false := by rw [f13]; rfl
          refine OpGoal.imp (S1 := fun W => Rst bi br W (pick3 true true false q0 q1 q2 q3)) (fun W' h => ?_) ?_
          · show (fun W => Rst bi br W (pick3 (dn 1 || ((10 : Nat) == 1)) (dn 6 || ((10 : Nat) == 6)) (dn 13 || ((10 : Nat) == 13)) q0 q1 q2 q3)) W'
            rw [g1, g6, g13]
            exact h
          clear g1 g6 g13 e1 e2 e3
          obtain rfl : l = [(0, 115), (1, 116), (2, 117), (3, 118), (4, 119), (5, 120), (6, 121), (7, 122), (8, 123), (9, 124)] := hl.symm.trans (by kernel_rfl)
          have p4 : vs 4 = _ := hp 4 (by decide) (by decide)
          have p9 : vs 9 = _ := hp 9 (by decide) (by decide)
          clear hp hl
          refine opgoal (_) (some 125) rfl rfl fun K hK => ?_
          refine Runs.mk ?_
          simp only [putAll]
          go_simp
          refine hK _ _ ?_ hS ⟨fun h => absurd h (by decide), fun h => absurd h (by decide), fun h => absurd h (by decide), fun h1 h6 h13 => ((fun w => Below.refl _ w) W)⟩ _ rfl rfl
          first | rfl | go_simp | simp
        · -- 11: Op.move (Operand.tmp 125)
          intro l hl vs W dn e1 e2 e3 hS hR hp
          have f1 : dn 1 = true := e2 1 (by kernel_rfl)
          have f6 : dn 6 = true := e2 6 (by kernel_rfl)
          have f13 : dn 13 = false := e3 13 (by kernel_rfl)
          replace hS : (fun W => Rst bi br W (pick3 (dn 1) (dn 6) (dn 13) q0 q1 q2 q3)) W := hS
          rw [f1, f6, f13] at hS
          have g1 : (dn 1 || ((11 : Nat) == 1)) = true := by rw [f1]; rfl
          have g6 : (dn 6 || ((11 : Nat) == 6)) = true := by rw [f6]; rfl
          have g13 : (dn 13 || ((11 : Nat) == 13)) = false := by rw [f13]; rfl
          refine OpGoal.imp (S1 := fun W => Rst bi br W (pick3 true true false q0 q1 q2 q3)) (fun W' h => ?_) ?_
          · show (fun W => Rst bi br W (pick3 (dn 1 || ((11 : Nat) == 1)) (dn 6 || ((11 : Nat) == 6)) (dn 13 || ((11 : Nat) == 13)) q0 q1 q2 q3)) W'
            rw [g1, g6, g13]
            exact h
          clear g1 g6 g13 e1 e2 e3
          obtain rfl : l = [(0, 115), (1, 116), (2, 117), (3, 118), (4, 119), (5, 120), (6, 121), (7, 122), (8, 123), (9, 124), (10, 125)] := hl.symm.trans (by kernel_rfl)
          have p10 : vs 10 = _ := hp 10 (by decide) (by decide)
          clear hp hl
          refine opgoal (_) (some 126) rfl rfl fun K hK => ?_
          refine Runs.mk ?_
          simp only [putAll]
          go_simp
          refine hK _ _ ?_ hS ⟨fun h => absurd h (by decide), fun h => absurd h (by decide), fun h => absurd h (by decide), fun h1 h6 h13 => ((fun w => Below.refl _ w) W)⟩ _ rfl rfl
          first | rfl | go_simp | simp
        · -- 12: Op.move (Operand.tmp 12)  [(11, 'true')]
          intro l hl vs W dn e1 e2 e3 hS hR hp
          have f1 : dn 1 = true := e2 1 (by kernel_rfl)
          have f6 : dn 6 = true := e2 6 (by kernel_rfl)
          have f13 : dn 13 = false := e3 13 (by kernel_rfl)
          replace hS : (fun W => Rst bi br W (pick3 (dn 1) (dn 6) (dn 13) q0 q1 q2 q3)) W := hS
          rw [f1, f6, f13] at hS
          have g1 : (dn 1 || ((12 : Nat) == 1)) = true := by rw [f1]; rfl
          have g6 : (dn 6 || ((12 : Nat) == 6)) = true := by rw [f6]; rfl
          have g13 : (dn 13 || ((12 : Nat) == 13)) = false := by rw [f13]; rfl
          refine OpGoal.imp (S1 := fun W => Rst bi br W (pick3 true true false q0 q1 q2 q3)) (fun W' h => ?_) ?_
          · show (fun W => Rst bi br W (pick3 (dn 1 || ((12 : Nat) == 1)) (dn 6 || ((12 : Nat) == 6)) (dn 13 || ((12 : Nat) == 13)) q0 q1 q2 q3)) W'
            rw [g1, g6, g13]
            exact h
          clear g1 g6 g13 e1 e2 e3
          obtain rfl : l = [(0, 115), (1, 116), (2, 117), (3, 118), (4, 119), (5, 120), (6, 121), (7, 122), (8, 123), (9, 124), (10, 125), (11, 126)] := hl.symm.trans (by kernel_rfl)
          have p11 : vs 11 = _ := hp 11 (by decide) (by decide)
          clear hp hl
          refine opgoal (_) (some 127) rfl rfl fun K hK => ?_
          refine Runs.mk ?_
          simp only [putAll]
          go_simp
          refine hK _ _ ?_ hS ⟨fun h => absurd h (by decide), fun h => absurd h (by decide), fun h => absurd h (by decide), fun h1 h6 h13 => ((fun w => Below.refl _ w) W)⟩ _ rfl rfl
          first | rfl | go_simp | simp
        · -- 13: Op.call { callee := Callee.value (Operand.func 49), args := #[Operand.tmp 127], argTypes := #[72] }  [(11, 'true')]
          intro l hl vs W dn e1 e2 e3 hS hR hp
          have f1 : dn 1 = true := e2 1 (by kernel_rfl)
          have f6 : dn 6 = true := e2 6 (by kernel_rfl)
          have f13 : dn 13 = false := e1
          replace hS : (fun W => Rst bi br W (pick3 (dn 1) (dn 6) (dn 13) q0 q1 q2 q3)) W := hS
          rw [f1, f6, f13] at hS
          have g1 : (dn 1 || ((13 : Nat) == 1)) = true := by rw [f1]; rfl
          have g6 : (dn 6 || ((13 : Nat) == 6)) = true := by rw [f6]; rfl
          have g13 : (dn 13 || ((13 : Nat) == 13)) = true := by rw [f13]; rfl
          refine OpGoal.imp (S1 := fun W => Rst bi br W (pick3 true true true q0 q1 q2 q3)) (fun W' h => ?_) ?_
          · show (fun W => Rst bi br W (pick3 (dn 1 || ((13 : Nat) == 1)) (dn 6 || ((13 : Nat) == 6)) (dn 13 || ((13 : Nat) == 13)) q0 q1 q2 q3)) W'
            rw [g1, g6, g13]
            exact h
          clear g1 g6 g13 e1 e2 e3
          obtain rfl : l = [(0, 115), (1, 116), (2, 117), (3, 118), (4, 119), (5, 120), (6, 121), (7, 122), (8, 123), (9, 124), (10, 125), (11, 126), (12, 127)] := hl.symm.trans (by kernel_rfl)
          have p11 : vs 11 = _ := hp 11 (by decide) (by decide)
          have p12 : vs 12 = _ := hp 12 (by decide) (by decide)
          clear hp hl
          refine opgoal (_) (some 128) rfl rfl fun K hK => ?_
          refine Runs.mk ?_
          simp only [putAll]
          go_simp
          refine (HNodes.out W hS).mono ?_
          rintro e w' ⟨A, c, rfl, hi, hr, hk⟩
          go_simp
          exact hK _ _ ⟨A, c, rfl, hi⟩ hr ⟨fun h => absurd h (by decide), fun h => absurd h (by decide), fun _ => hk, fun h1 h6 h13 => absurd rfl h13⟩ _ rfl rfl
        · -- 14: Op.fieldAddr 57 (Operand.tmp 4) 1  [(11, 'true')]
          intro l hl vs W dn e1 e2 e3 hS hR hp
          have f1 : dn 1 = true := e2 1 (by kernel_rfl)
          have f6 : dn 6 = true := e2 6 (by kernel_rfl)
          have f13 : dn 13 = dn 13 := rfl
          replace hS : (fun W => Rst bi br W (pick3 (dn 1) (dn 6) (dn 13) q0 q1 q2 q3)) W := hS
          rw [f1, f6] at hS
          have g1 : (dn 1 || ((14 : Nat) == 1)) = true := by rw [f1]; rfl
          have g6 : (dn 6 || ((14 : Nat) == 6)) = true := by rw [f6]; rfl
          have g13 : (dn 13 || ((14 : Nat) == 13)) = dn 13 := Bool.or_false _
          refine OpGoal.imp (S1 := fun W => Rst bi br W (pick3 true true (dn 13) q0 q1 q2 q3)) (fun W' h => ?_) ?_
          · show (fun W => Rst bi br W (pick3 (dn 1 || ((14 : Nat) == 1)) (dn 6 || ((14 : Nat) == 6)) (dn 13 || ((14 : Nat) == 13)) q0 q1 q2 q3)) W'
            rw [g1, g6, g13]
            exact h
          clear g1 g6 g13 e1 e2 e3
          obtain rfl : l = [(0, 115), (1, 116), (2, 117), (3, 118), (4, 119), (5, 120), (6, 121), (7, 122), (8, 123), (9, 124), (10, 125), (11, 126)] := hl.symm.trans (by kernel_rfl)
          have p11 : vs 11 = _ := hp 11 (by decide) (by decide)
          clear hp hl
          refine opgoal (_) (some 129) rfl rfl fun K hK => ?_
          refine Runs.mk ?_
          simp only [putAll]
          go_simp
          refine hK _ _ ?_ hS ⟨fun h => absurd h (by decide), fun h => absurd h (by decide), fun h => absurd h (by decide), fun h1 h6 h13 => ((fun w => Below.refl _ w) W)⟩ _ rfl rfl
          first | rfl | go_simp | simp
        · -- 15: Op.load 55 (Operand.tmp 129)  [(11, 'true')]
          intro l hl vs W dn e1 e2 e3 hS hR hp
          have f1 : dn 1 = true := e2 1 (by kernel_rfl)
          have f6 : dn 6 = true := e2 6 (by kernel_rfl)
          have f13 : dn 13 = dn 13 := rfl
          replace hS : (fun W => Rst bi br W (pick3 (dn 1) (dn 6) (dn 13) q0 q1 q2 q3)) W := hS
          rw [f1, f6] at hS
          have g1 : (dn 1 || ((15 : Nat) == 1)) = true := by rw [f1]; rfl
          have g6 : (dn 6 || ((15 : Nat) == 6)) = true := by rw [f6]; rfl
          have g13 : (dn 13 || ((15 : Nat) == 13)) = dn 13 := Bool.or_false _
          refine OpGoal.imp (S1 := fun W => Rst bi br W (pick3 true true (dn 13) q0 q1 q2 q3)) (fun W' h => ?_) ?_
          · show (fun W => Rst bi br W (pick3 (dn 1 || ((15 : Nat) == 1)) (dn 6 || ((15 : Nat) == 6)) (dn 13 || ((15 : Nat) == 13)) q0 q1 q2 q3)) W'
            rw [g1, g6, g13]
            exact h
          clear g1 g6 g13 e1 e2 e3
          obtain rfl : l = [(0, 115), (1, 116), (2, 117), (3, 118), (4, 119), (5, 120), (6, 121), (7, 122), (8, 123), (9, 124), (10, 125), (11, 126), (14, 129)] := hl.symm.trans (by kernel_rfl)
          have p11 : vs 11 = _ := hp 11 (by decide) (by decide)
          have p14 : vs 14 = _ := hp 14 (by decide) (by decide)
          clear hp hl
          refine opgoal (_) (some 130) rfl rfl fun K hK => ?_
          obtain ⟨f0, f1⟩ := cs_cells (hbox.out W hR).2
          refine Runs.mk ?_
          simp only [putAll]
          go_simp
          refine hK _ _ ?_ hS ⟨fun h => absurd h (by decide), fun h => absurd h (by decide), fun h => absurd h (by decide), fun h1 h6 h13 => ((fun w => Below.refl _ w) W)⟩ _ rfl rfl
          first | rfl | go_simp | simp
        · -- 16: Op.call { callee := Callee.value (Operand.func 51), args := #[Operand.tmp 128, Operand.tmp 130], argTypes := #[55, 55] }  [(11, 'true')]
          intro l hl vs W dn e1 e2 e3 hS hR hp
          have f1 : dn 1 = true := e2 1 (by kernel_rfl)
          have f6 : dn 6 = true := e2 6 (by kernel_rfl)
          have f13 : dn 13 = true := e2 13 (by kernel_rfl)
          replace hS : (fun W => Rst bi br W (pick3 (dn 1) (dn 6) (dn 13) q0 q1 q2 q3)) W := hS
          rw [f1, f6, f13] at hS
          have g1 : (dn 1 || ((16 : Nat) == 1)) = true := by rw [f1]; rfl
          have g6 : (dn 6 || ((16 : Nat) == 6)) = true := by rw [f6]; rfl
          have g13 : (dn 13 || ((16 : Nat) == 13)) = true := by rw [f13]; rfl
          refine OpGoal.imp (S1 := fun W => Rst bi br W (pick3 true true true q0 q1 q2 q3)) (fun W' h => ?_) ?_
          · show (fun W => Rst bi br W (pick3 (dn 1 || ((16 : Nat) == 1)) (dn 6 || ((16 : Nat) == 6)) (dn 13 || ((16 : Nat) == 13)) q0 q1 q2 q3)) W'
            rw [g1, g6, g13]
            exact h
          clear g1 g6 g13 e1 e2 e3
          obtain rfl : l = [(0, 115), (1, 116), (2, 117), (3, 118), (4, 119), (5, 120), (6, 121), (7, 122), (8, 123), (9, 124), (10, 125), (11, 126), (12, 127), (13, 128), (14, 129), (15, 130)] := hl.symm.trans (by kernel_rfl)
          have p11 : vs 11 = _ := hp 11 (by decide) (by decide)
          have p13 : (fun v W => ∃ A c, v = .slice A nn c ∧ Rd W A nn (xs.map (Value.int .i64))) (vs 13) W := hp 13 (by decide) (by decide)
          dsimp only at p13
          have p15 : vs 15 = _ := hp 15 (by decide) (by decide)
          clear hp hl
          obtain ⟨A, c, q13, i13⟩ := p13
          refine opgoal (_) (some 131) rfl rfl fun K hK => ?_
          refine Runs.mk ?_
          simp only [putAll]
          go_simp
          refine (same_nodes A nA nn c nc xs W i13 (hNW.out W hR)).mono ?_
          rintro e w' ⟨rfl, hb⟩
          go_simp
          exact hK _ _ rfl (hS.below hb) ⟨fun h => absurd h (by decide), fun h => absurd h (by decide), fun h => absurd h (by decide), fun _ _ _ => hb⟩ _ rfl rfl
        · -- 17: Op.pick (Operand.tmp 126) (Operand.tmp 131) (Operand.const (Value.bool false))
          intro l hl vs W dn e1 e2 e3 hS hR hp
          have f1 : dn 1 = true := e2 1 (by kernel_rfl)
          have f6 : dn 6 = true := e2 6 (by kernel_rfl)
          have f13 : dn 13 = true := e2 13 (by kernel_rfl)
          replace hS : (fun W => Rst bi br W (pick3 (dn 1) (dn 6) (dn 13) q0 q1 q2 q3)) W := hS
          rw [f1, f6, f13] at hS
          have g1 : (dn 1 || ((17 : Nat) == 1)) = true := by rw [f1]; rfl
          have g6 : (dn 6 || ((17 : Nat) == 6)) = true := by rw [f6]; rfl
          have g13 : (dn 13 || ((17 : Nat) == 13)) = true := by rw [f13]; rfl
          refine OpGoal.imp (S1 := fun W => Rst bi br W (pick3 true true true q0 q1 q2 q3)) (fun W' h => ?_) ?_
          · show (fun W => Rst bi br W (pick3 (dn 1 || ((17 : Nat) == 1)) (dn 6 || ((17 : Nat) == 6)) (dn 13 || ((17 : Nat) == 13)) q0 q1 q2 q3)) W'
            rw [g1, g6, g13]
            exact h
          clear g1 g6 g13 e1 e2 e3
          obtain rfl : l = [(0, 115), (1, 116), (2, 117), (3, 118), (4, 119), (5, 120), (6, 121), (7, 122), (8, 123), (9, 124), (10, 125), (11, 126), (12, 127), (13, 128), (14, 129), (15, 130), (16, 131)] := hl.symm.trans (by kernel_rfl)
          have p11 : vs 11 = _ := hp 11 (by decide) (by decide)
          have p16 : vs 16 = _ := hp 16 (by decide) (by decide)
          clear hp hl
          refine opgoal (_) (some 132) rfl rfl fun K hK => ?_
          refine Runs.mk ?_
          simp only [putAll]
          go_simp
          refine hK _ _ ?_ hS ⟨fun h => absurd h (by decide), fun h => absurd h (by decide), fun h => absurd h (by decide), fun h1 h6 h13 => ((fun w => Below.refl _ w) W)⟩ _ rfl rfl
          first | rfl | go_simp | simp
        · -- 18: Op.move (Operand.tmp 132)
          intro l hl vs W dn e1 e2 e3 hS hR hp
          have f1 : dn 1 = true := e2 1 (by kernel_rfl)
          have f6 : dn 6 = true := e2 6 (by kernel_rfl)
          have f13 : dn 13 = true := e2 13 (by kernel_rfl)
          replace hS : (fun W => Rst bi br W (pick3 (dn 1) (dn 6) (dn 13) q0 q1 q2 q3)) W := hS
          rw [f1, f6, f13] at hS
          have g1 : (dn 1 || ((18 : Nat) == 1)) = true := by rw [f1]; rfl
          have g6 : (dn 6 || ((18 : Nat) == 6)) = true := by rw [f6]; rfl
          have g13 : (dn 13 || ((18 : Nat) == 13)) = true := by rw [f13]; rfl
          refine OpGoal.imp (S1 := fun W => Rst bi br W (pick3 true true true q0 q1 q2 q3)) (fun W' h => ?_) ?_
          · show (fun W => Rst bi br W (pick3 (dn 1 || ((18 : Nat) == 1)) (dn 6 || ((18 : Nat) == 6)) (dn 13 || ((18 : Nat) == 13)) q0 q1 q2 q3)) W'
            rw [g1, g6, g13]
            exact h
          clear g1 g6 g13 e1 e2 e3
          obtain rfl : l = [(0, 115), (1, 116), (2, 117), (3, 118), (4, 119), (5, 120), (6, 121), (7, 122), (8, 123), (9, 124), (10, 125), (11, 126), (12, 127), (13, 128), (14, 129), (15, 130), (16, 131), (17, 132)] := hl.symm.trans (by kernel_rfl)
          have p17 : vs 17 = _ := hp 17 (by decide) (by decide)
          clear hp hl
          refine opgoal (_) (some 133) rfl rfl fun K hK => ?_
          refine Runs.mk ?_
          simp only [putAll]
          go_simp
          refine hK _ _ ?_ hS ⟨fun h => absurd h (by decide), fun h => absurd h (by decide), fun h => absurd h (by decide), fun h1 h6 h13 => ((fun w => Below.refl _ w) W)⟩ _ rfl rfl
          first | rfl | go_simp | simp
        · -- 19: Op.move (Operand.tmp 12)  [(18, 'true')]
          intro l hl vs W dn e1 e2 e3 hS hR hp
          have f1 : dn 1 = true := e2 1 (by kernel_rfl)
          have f6 : dn 6 = true := e2 6 (by kernel_rfl)
          have f13 : dn 13 = true := e2 13 (by kernel_rfl)
          replace hS : (fun W => Rst bi br W (pick3 (dn 1) (dn 6) (dn 13) q0 q1 q2 q3)) W := hS
          rw [f1, f6, f13] at hS
          have g1 : (dn 1 || ((19 : Nat) == 1)) = true := by rw [f1]; rfl
          have g6 : (dn 6 || ((19 : Nat) == 6)) = true := by rw [f6]; rfl
          have g13 : (dn 13 || ((19 : Nat) == 13)) = true := by rw [f13]; rfl
          refine OpGoal.imp (S1 := fun W => Rst bi br W (pick3 true true true q0 q1 q2 q3)) (fun W' h => ?_) ?_
          · show (fun W => Rst bi br W (pick3 (dn 1 || ((19 : Nat) == 1)) (dn 6 || ((19 : Nat) == 6)) (dn 13 || ((19 : Nat) == 13)) q0 q1 q2 q3)) W'
            rw [g1, g6, g13]
            exact h
          clear g1 g6 g13 e1 e2 e3
          obtain rfl : l = [(0, 115), (1, 116), (2, 117), (3, 118), (4, 119), (5, 120), (6, 121), (7, 122), (8, 123), (9, 124), (10, 125), (11, 126), (12, 127), (13, 128), (14, 129), (15, 130), (16, 131), (17, 132), (18, 133)] := hl.symm.trans (by kernel_rfl)
          have p18 : vs 18 = _ := hp 18 (by decide) (by decide)
          clear hp hl
          refine opgoal (_) (some 134) rfl rfl fun K hK => ?_
          refine Runs.mk ?_
          simp only [putAll]
          go_simp
          refine hK _ _ ?_ hS ⟨fun h => absurd h (by decide), fun h => absurd h (by decide), fun h => absurd h (by decide), fun h1 h6 h13 => ((fun w => Below.refl _ w) W)⟩ _ rfl rfl
          first | rfl | go_simp | simp
        · -- 20: Op.nilCheck (Operand.tmp 134)  [(18, 'true')]
          intro l hl vs W dn e1 e2 e3 hS hR hp
          have f1 : dn 1 = true := e2 1 (by kernel_rfl)
          have f6 : dn 6 = true := e2 6 (by kernel_rfl)
          have f13 : dn 13 = true := e2 13 (by kernel_rfl)
          replace hS : (fun W => Rst bi br W (pick3 (dn 1) (dn 6) (dn 13) q0 q1 q2 q3)) W := hS
          rw [f1, f6, f13] at hS
          have g1 : (dn 1 || ((20 : Nat) == 1)) = true := by rw [f1]; rfl
          have g6 : (dn 6 || ((20 : Nat) == 6)) = true := by rw [f6]; rfl
          have g13 : (dn 13 || ((20 : Nat) == 13)) = true := by rw [f13]; rfl
          refine OpGoal.imp (S1 := fun W => Rst bi br W (pick3 true true true q0 q1 q2 q3)) (fun W' h => ?_) ?_
          · show (fun W => Rst bi br W (pick3 (dn 1 || ((20 : Nat) == 1)) (dn 6 || ((20 : Nat) == 6)) (dn 13 || ((20 : Nat) == 13)) q0 q1 q2 q3)) W'
            rw [g1, g6, g13]
            exact h
          clear g1 g6 g13 e1 e2 e3
          obtain rfl : l = [(0, 115), (1, 116), (2, 117), (3, 118), (4, 119), (5, 120), (6, 121), (7, 122), (8, 123), (9, 124), (10, 125), (11, 126), (12, 127), (13, 128), (14, 129), (15, 130), (16, 131), (17, 132), (18, 133), (19, 134)] := hl.symm.trans (by kernel_rfl)
          have p18 : vs 18 = _ := hp 18 (by decide) (by decide)
          have p19 : vs 19 = _ := hp 19 (by decide) (by decide)
          clear hp hl
          refine opgoal (_) (some 135) rfl rfl fun K hK => ?_
          refine Runs.mk ?_
          simp only [putAll]
          go_simp
          refine hK _ _ ?_ hS ⟨fun h => absurd h (by decide), fun h => absurd h (by decide), fun h => absurd h (by decide), fun h1 h6 h13 => ((fun w => Below.refl _ w) W)⟩ _ rfl rfl
          first | rfl | go_simp | simp
        · -- 21: Op.fieldAddr 78 (Operand.tmp 135) 0  [(18, 'true')]
          intro l hl vs W dn e1 e2 e3 hS hR hp
          have f1 : dn 1 = true := e2 1 (by kernel_rfl)
          have f6 : dn 6 = true := e2 6 (by kernel_rfl)
          have f13 : dn 13 = true := e2 13 (by kernel_rfl)
          replace hS : (fun W => Rst bi br W (pick3 (dn 1) (dn 6) (dn 13) q0 q1 q2 q3)) W := hS
          rw [f1, f6, f13] at hS
          have g1 : (dn 1 || ((21 : Nat) == 1)) = true := by rw [f1]; rfl
          have g6 : (dn 6 || ((21 : Nat) == 6)) = true := by rw [f6]; rfl
          have g13 : (dn 13 || ((21 : Nat) == 13)) = true := by rw [f13]; rfl
          refine OpGoal.imp (S1 := fun W => Rst bi br W (pick3 true true true q0 q1 q2 q3)) (fun W' h => ?_) ?_
          · show (fun W => Rst bi br W (pick3 (dn 1 || ((21 : Nat) == 1)) (dn 6 || ((21 : Nat) == 6)) (dn 13 || ((21 : Nat) == 13)) q0 q1 q2 q3)) W'
            rw [g1, g6, g13]
            exact h
          clear g1 g6 g13 e1 e2 e3
          obtain rfl : l = [(0, 115), (1, 116), (2, 117), (3, 118), (4, 119), (5, 120), (6, 121), (7, 122), (8, 123), (9, 124), (10, 125), (11, 126), (12, 127), (13, 128), (14, 129), (15, 130), (16, 131), (17, 132), (18, 133), (19, 134), (20, 135)] := hl.symm.trans (by kernel_rfl)
          have p18 : vs 18 = _ := hp 18 (by decide) (by decide)
          have p20 : vs 20 = _ := hp 20 (by decide) (by decide)
          clear hp hl
          refine opgoal (_) (some 136) rfl rfl fun K hK => ?_
          refine Runs.mk ?_
          simp only [putAll]
          go_simp
          refine hK _ _ ?_ hS ⟨fun h => absurd h (by decide), fun h => absurd h (by decide), fun h => absurd h (by decide), fun h1 h6 h13 => ((fun w => Below.refl _ w) W)⟩ _ rfl rfl
          first | rfl | go_simp | simp
        · -- 22: Op.load 37 (Operand.tmp 136)  [(18, 'true')]
          intro l hl vs W dn e1 e2 e3 hS hR hp
          have f1 : dn 1 = true := e2 1 (by kernel_rfl)
          have f6 : dn 6 = true := e2 6 (by kernel_rfl)
          have f13 : dn 13 = true := e2 13 (by kernel_rfl)
          replace hS : (fun W => Rst bi br W (pick3 (dn 1) (dn 6) (dn 13) q0 q1 q2 q3)) W := hS
          rw [f1, f6, f13] at hS
          have g1 : (dn 1 || ((22 : Nat) == 1)) = true := by rw [f1]; rfl
          have g6 : (dn 6 || ((22 : Nat) == 6)) = true := by rw [f6]; rfl
          have g13 : (dn 13 || ((22 : Nat) == 13)) = true := by rw [f13]; rfl
          refine OpGoal.imp (S1 := fun W => Rst bi br W (pick3 true true true q0 q1 q2 q3)) (fun W' h => ?_) ?_
          · show (fun W => Rst bi br W (pick3 (dn 1 || ((22 : Nat) == 1)) (dn 6 || ((22 : Nat) == 6)) (dn 13 || ((22 : Nat) == 13)) q0 q1 q2 q3)) W'
            rw [g1, g6, g13]
            exact h
          clear g1 g6 g13 e1 e2 e3
          obtain rfl : l = [(0, 115), (1, 116), (2, 117), (3, 118), (4, 119), (5, 120), (6, 121), (7, 122), (8, 123), (9, 124), (10, 125), (11, 126), (12, 127), (13, 128), (14, 129), (15, 130), (16, 131), (17, 132), (18, 133), (19, 134), (20, 135), (21, 136)] := hl.symm.trans (by kernel_rfl)
          have p18 : vs 18 = _ := hp 18 (by decide) (by decide)
          have p21 : vs 21 = _ := hp 21 (by decide) (by decide)
          clear hp hl
          refine opgoal (_) (some 137) rfl rfl fun K hK => ?_
          have hi0 := hcell.out W hR
          refine Runs.mk ?_
          simp only [putAll]
          go_simp
          refine hK _ _ ?_ hS ⟨fun h => absurd h (by decide), fun h => absurd h (by decide), fun h => absurd h (by decide), fun h1 h6 h13 => ((fun w => Below.refl _ w) W)⟩ _ rfl rfl
          first | rfl | go_simp | simp
        · -- 23: Op.call { callee := Callee.value (Operand.func 24), args := #[Operand.tmp 137], argTypes := #[37] }  [(18, 'true')]
          intro l hl vs W dn e1 e2 e3 hS hR hp
          have f1 : dn 1 = true := e2 1 (by kernel_rfl)
          have f6 : dn 6 = true := e2 6 (by kernel_rfl)
          have f13 : dn 13 = true := e2 13 (by kernel_rfl)
          replace hS : (fun W => Rst bi br W (pick3 (dn 1) (dn 6) (dn 13) q0 q1 q2 q3)) W := hS
          rw [f1, f6, f13] at hS
          have g1 : (dn 1 || ((23 : Nat) == 1)) = true := by rw [f1]; rfl
          have g6 : (dn 6 || ((23 : Nat) == 6)) = true := by rw [f6]; rfl
          have g13 : (dn 13 || ((23 : Nat) == 13)) = true := by rw [f13]; rfl
          refine OpGoal.imp (S1 := fun W => Rst bi br W (pick3 true true true q0 q1 q2 q3)) (fun W' h => ?_) ?_
          · show (fun W => Rst bi br W (pick3 (dn 1 || ((23 : Nat) == 1)) (dn 6 || ((23 : Nat) == 6)) (dn 13 || ((23 : Nat) == 13)) q0 q1 q2 q3)) W'
            rw [g1, g6, g13]
            exact h
          clear g1 g6 g13 e1 e2 e3
          obtain rfl : l = [(0, 115), (1, 116), (2, 117), (3, 118), (4, 119), (5, 120), (6, 121), (7, 122), (8, 123), (9, 124), (10, 125), (11, 126), (12, 127), (13, 128), (14, 129), (15, 130), (16, 131), (17, 132), (18, 133), (19, 134), (20, 135), (21, 136), (22, 137)] := hl.symm.trans (by kernel_rfl)
          have p18 : vs 18 = _ := hp 18 (by decide) (by decide)
          have p22 : vs 22 = _ := hp 22 (by decide) (by decide)
          clear hp hl
          refine opgoal (_) (some 138) rfl rfl fun K hK => ?_
          refine Runs.mk ?_
          simp only [putAll]
          go_simp
          refine (HLeft.out W hS).mono ?_
          rintro e w' ⟨rfl, rfl⟩
          go_simp
          exact hK _ _ rfl hS ⟨fun h => absurd h (by decide), fun h => absurd h (by decide), fun h => absurd h (by decide), fun _ _ _ => Below.refl _ _⟩ _ rfl rfl
        · -- 24: Op.move (Operand.tmp 2)  [(18, 'true')]
          intro l hl vs W dn e1 e2 e3 hS hR hp
          have f1 : dn 1 = true := e2 1 (by kernel_rfl)
          have f6 : dn 6 = true := e2 6 (by kernel_rfl)
          have f13 : dn 13 = true := e2 13 (by kernel_rfl)
          replace hS : (fun W => Rst bi br W (pick3 (dn 1) (dn 6) (dn 13) q0 q1 q2 q3)) W := hS
          rw [f1, f6, f13] at hS
          have g1 : (dn 1 || ((24 : Nat) == 1)) = true := by rw [f1]; rfl
          have g6 : (dn 6 || ((24 : Nat) == 6)) = true := by rw [f6]; rfl
          have g13 : (dn 13 || ((24 : Nat) == 13)) = true := by rw [f13]; rfl
          refine OpGoal.imp (S1 := fun W => Rst bi br W (pick3 true true true q0 q1 q2 q3)) (fun W' h => ?_) ?_
          · show (fun W => Rst bi br W (pick3 (dn 1 || ((24 : Nat) == 1)) (dn 6 || ((24 : Nat) == 6)) (dn 13 || ((24 : Nat) == 13)) q0 q1 q2 q3)) W'
            rw [g1, g6, g13]
            exact h
          clear g1 g6 g13 e1 e2 e3
          obtain rfl : l = [(0, 115), (1, 116), (2, 117), (3, 118), (4, 119), (5, 120), (6, 121), (7, 122), (8, 123), (9, 124), (10, 125), (11, 126), (12, 127), (13, 128), (14, 129), (15, 130), (16, 131), (17, 132), (18, 133)] := hl.symm.trans (by kernel_rfl)
          have p18 : vs 18 = _ := hp 18 (by decide) (by decide)
          clear hp hl
          refine opgoal (_) (some 139) rfl rfl fun K hK => ?_
          refine Runs.mk ?_
          simp only [putAll]
          go_simp
          refine hK _ _ ?_ hS ⟨fun h => absurd h (by decide), fun h => absurd h (by decide), fun h => absurd h (by decide), fun h1 h6 h13 => ((fun w => Below.refl _ w) W)⟩ _ rfl rfl
          first | rfl | go_simp | simp
        · -- 25: Op.call { callee := Callee.builtin Builtin.len, args := #[Operand.tmp 139], argTypes := #[9] }  [(18, 'true')]
          intro l hl vs W dn e1 e2 e3 hS hR hp
          have f1 : dn 1 = true := e2 1 (by kernel_rfl)
          have f6 : dn 6 = true := e2 6 (by kernel_rfl)
          have f13 : dn 13 = true := e2 13 (by kernel_rfl)
          replace hS : (fun W => Rst bi br W (pick3 (dn 1) (dn 6) (dn 13) q0 q1 q2 q3)) W := hS
          rw [f1, f6, f13] at hS
          have g1 : (dn 1 || ((25 : Nat) == 1)) = true := by rw [f1]; rfl
          have g6 : (dn 6 || ((25 : Nat) == 6)) = true := by rw [f6]; rfl
          have g13 : (dn 13 || ((25 : Nat) == 13)) = true := by rw [f13]; rfl
          refine OpGoal.imp (S1 := fun W => Rst bi br W (pick3 true true true q0 q1 q2 q3)) (fun W' h => ?_) ?_
          · show (fun W => Rst bi br W (pick3 (dn 1 || ((25 : Nat) == 1)) (dn 6 || ((25 : Nat) == 6)) (dn 13 || ((25 : Nat) == 13)) q0 q1 q2 q3)) W'
            rw [g1, g6, g13]
            exact h
          clear g1 g6 g13 e1 e2 e3
          obtain rfl : l = [(0, 115), (1, 116), (2, 117), (3, 118), (4, 119), (5, 120), (6, 121), (7, 122), (8, 123), (9, 124), (10, 125), (11, 126), (12, 127), (13, 128), (14, 129), (15, 130), (16, 131), (17, 132), (18, 133), (24, 139)] := hl.symm.trans (by kernel_rfl)
          have p18 : vs 18 = _ := hp 18 (by decide) (by decide)
          have p24 : vs 24 = _ := hp 24 (by decide) (by decide)
          clear hp hl
          refine opgoal (_) (some 140) rfl rfl fun K hK => ?_
          refine Runs.mk ?_
          simp only [putAll]
          go_simp
          refine hK _ _ ?_ hS ⟨fun h => absurd h (by decide), fun h => absurd h (by decide), fun h => absurd h (by decide), fun h1 h6 h13 => ((fun w => Below.refl _ w) W)⟩ _ rfl rfl
          first | rfl | go_simp | simp
        · -- 26: Op.binOp BinOp.eql 3 (Operand.tmp 138) (Operand.tmp 140) 3  [(18, 'true')]
          intro l hl vs W dn e1 e2 e3 hS hR hp
          have f1 : dn 1 = true := e2 1 (by kernel_rfl)
          have f6 : dn 6 = true := e2 6 (by kernel_rfl)
          have f13 : dn 13 = true := e2 13 (by kernel_rfl)
          replace hS : (fun W => Rst bi br W (pick3 (dn 1) (dn 6) (dn 13) q0 q1 q2 q3)) W := hS
          rw [f1, f6, f13] at hS
          have g1 : (dn 1 || ((26 : Nat) == 1)) = true := by rw [f1]; rfl
          have g6 : (dn 6 || ((26 : Nat) == 6)) = true := by rw [f6]; rfl
          have g13 : (dn 13 || ((26 : Nat) == 13)) = true := by rw [f13]; rfl
          refine OpGoal.imp (S1 := fun W => Rst bi br W (pick3 true true true q0 q1 q2 q3)) (fun W' h => ?_) ?_
          · show (fun W => Rst bi br W (pick3 (dn 1 || ((26 : Nat) == 1)) (dn 6 || ((26 : Nat) == 6)) (dn 13 || ((26 : Nat) == 13)) q0 q1 q2 q3)) W'
            rw [g1, g6, g13]
            exact h
          clear g1 g6 g13 e1 e2 e3
          obtain rfl : l = [(0, 115), (1, 116), (2, 117), (3, 118), (4, 119), (5, 120), (6, 121), (7, 122), (8, 123), (9, 124), (10, 125), (11, 126), (12, 127), (13, 128), (14, 129), (15, 130), (16, 131), (17, 132), (18, 133), (19, 134), (20, 135), (21, 136), (22, 137), (23, 138), (24, 139), (25, 140)] := hl.symm.trans (by kernel_rfl)
          have p18 : vs 18 = _ := hp 18 (by decide) (by decide)
          have p23 : vs 23 = _ := hp 23 (by decide) (by decide)
          have p25 : vs 25 = _ := hp 25 (by decide) (by decide)
          clear hp hl
          refine opgoal (_) (some 141) rfl rfl fun K hK => ?_
          refine Runs.mk ?_
          simp only [putAll]
          go_simp
          refine hK _ _ ?_ hS ⟨fun h => absurd h (by decide), fun h => absurd h (by decide), fun h => absurd h (by decide), fun h1 h6 h13 => ((fun w => Below.refl _ w) W)⟩ _ rfl rfl
          first | rfl | go_simp | simp
        · -- 27: Op.pick (Operand.tmp 133) (Operand.tmp 141) (Operand.const (Value.bool false))
          intro l hl vs W dn e1 e2 e3 hS hR hp
          have f1 : dn 1 = true := e2 1 (by kernel_rfl)
          have f6 : dn 6 = true := e2 6 (by kernel_rfl)
          have f13 : dn 13 = true := e2 13 (by kernel_rfl)
          replace hS : (fun W => Rst bi br W (pick3 (dn 1) (dn 6) (dn 13) q0 q1 q2 q3)) W := hS
          rw [f1, f6, f13] at hS
          have g1 : (dn 1 || ((27 : Nat) == 1)) = true := by rw [f1]; rfl
          have g6 : (dn 6 || ((27 : Nat) == 6)) = true := by rw [f6]; rfl
          have g13 : (dn 13 || ((27 : Nat) == 13)) = true := by rw [f13]; rfl
          refine OpGoal.imp (S1 := fun W => Rst bi br W (pick3 true true true q0 q1 q2 q3)) (fun W' h => ?_) ?_
          · show (fun W => Rst bi br W (pick3 (dn 1 || ((27 : Nat) == 1)) (dn 6 || ((27 : Nat) == 6)) (dn 13 || ((27 : Nat) == 13)) q0 q1 q2 q3)) W'
            rw [g1, g6, g13]
            exact h
          clear g1 g6 g13 e1 e2 e3
          obtain rfl : l = [(0, 115), (1, 116), (2, 117), (3, 118), (4, 119), (5, 120), (6, 121), (7, 122), (8, 123), (9, 124), (10, 125), (11, 126), (12, 127), (13, 128), (14, 129), (15, 130), (16, 131), (17, 132), (18, 133), (19, 134), (20, 135), (21, 136), (22, 137), (23, 138), (24, 139), (25, 140), (26, 141)] := hl.symm.trans (by kernel_rfl)
          have p18 : vs 18 = _ := hp 18 (by decide) (by decide)
          have p26 : vs 26 = _ := hp 26 (by decide) (by decide)
          clear hp hl
          refine opgoal (_) (some 142) rfl rfl fun K hK => ?_
          refine Runs.mk ?_
          simp only [putAll]
          go_simp
          refine hK _ _ ?_ hS ⟨fun h => absurd h (by decide), fun h => absurd h (by decide), fun h => absurd h (by decide), fun h1 h6 h13 => ((fun w => Below.refl _ w) W)⟩ _ rfl rfl
          first | rfl | go_simp | simp
        · -- 28: Op.assign (Operand.tmp 142)
          intro l hl vs W dn e1 e2 e3 hS hR hp
          have f1 : dn 1 = true := e2 1 (by kernel_rfl)
          have f6 : dn 6 = true := e2 6 (by kernel_rfl)
          have f13 : dn 13 = true := e2 13 (by kernel_rfl)
          replace hS : (fun W => Rst bi br W (pick3 (dn 1) (dn 6) (dn 13) q0 q1 q2 q3)) W := hS
          rw [f1, f6, f13] at hS
          have g1 : (dn 1 || ((28 : Nat) == 1)) = true := by rw [f1]; rfl
          have g6 : (dn 6 || ((28 : Nat) == 6)) = true := by rw [f6]; rfl
          have g13 : (dn 13 || ((28 : Nat) == 13)) = true := by rw [f13]; rfl
          refine OpGoal.imp (S1 := fun W => Rst bi br W (pick3 true true true q0 q1 q2 q3)) (fun W' h => ?_) ?_
          · show (fun W => Rst bi br W (pick3 (dn 1 || ((28 : Nat) == 1)) (dn 6 || ((28 : Nat) == 6)) (dn 13 || ((28 : Nat) == 13)) q0 q1 q2 q3)) W'
            rw [g1, g6, g13]
            exact h
          clear g1 g6 g13 e1 e2 e3
          obtain rfl : l = [(0, 115), (1, 116), (2, 117), (3, 118), (4, 119), (5, 120), (6, 121), (7, 122), (8, 123), (9, 124), (10, 125), (11, 126), (12, 127), (13, 128), (14, 129), (15, 130), (16, 131), (17, 132), (18, 133), (19, 134), (20, 135), (21, 136), (22, 137), (23, 138), (24, 139), (25, 140), (26, 141), (27, 142)] := hl.symm.trans (by kernel_rfl)
          have p27 : vs 27 = _ := hp 27 (by decide) (by decide)
          clear hp hl
          refine opgoal (_) (some 6) rfl rfl fun K hK => ?_
          refine Runs.mk ?_
          simp only [putAll]
          go_simp
          refine hK _ _ ?_ hS ⟨fun h => absurd h (by decide), fun h => absurd h (by decide), fun h => absurd h (by decide), fun h1 h6 h13 => ((fun w => Below.refl _ w) W)⟩ _ rfl rfl
          first | rfl | go_simp | simp
      · intro l hl vs W dn hd hS hR hp
        replace hS : (fun W => Rst bi br W (pick3 (dn 1) (dn 6) (dn 13) q0 q1 q2 q3)) W := hS
        rw [hd 1 (by decide), hd 6 (by decide), hd 13 (by decide)] at hS
        obtain rfl : l = [(0, 115), (1, 116), (2, 117), (3, 118), (4, 119), (5, 120), (6, 121), (7, 122), (8, 123), (9, 124), (10, 125), (11, 126), (12, 127), (13, 128), (14, 129), (15, 130), (16, 131), (17, 132), (18, 133), (19, 134), (20, 135), (21, 136), (22, 137), (23, 138), (24, 139), (25, 140), (26, 141), (27, 142), (28, 6)] := hl.symm.trans (by kernel_rfl)
        have p0 : vs 0 = _ := hp 0 (by decide) (by decide)
        have p1 : vs 1 = _ := hp 1 (by decide) (by decide)
        have p2 : vs 2 = _ := hp 2 (by decide) (by decide)
        have p3 : vs 3 = _ := hp 3 (by decide) (by decide)
        have p4 : vs 4 = _ := hp 4 (by decide) (by decide)
        have p5 : vs 5 = _ := hp 5 (by decide) (by decide)
        have p7 : vs 7 = _ := hp 7 (by decide) (by decide)
        have p8 : vs 8 = _ := hp 8 (by decide) (by decide)
        have p9 : vs 9 = _ := hp 9 (by decide) (by decide)
        have p10 : vs 10 = _ := hp 10 (by decide) (by decide)
        have p11 : vs 11 = _ := hp 11 (by decide) (by decide)
        have p12 : vs 12 = _ := hp 12 (by decide) (by decide)
        have p14 : vs 14 = _ := hp 14 (by decide) (by decide)
        have p15 : vs 15 = _ := hp 15 (by decide) (by decide)
        have p16 : vs 16 = _ := hp 16 (by decide) (by decide)
        have p17 : vs 17 = _ := hp 17 (by decide) (by decide)
        have p18 : vs 18 = _ := hp 18 (by decide) (by decide)
        have p19 : vs 19 = _ := hp 19 (by decide) (by decide)
        have p20 : vs 20 = _ := hp 20 (by decide) (by decide)
        have p21 : vs 21 = _ := hp 21 (by decide) (by decide)
        have p22 : vs 22 = _ := hp 22 (by decide) (by decide)
        have p23 : vs 23 = _ := hp 23 (by decide) (by decide)
        have p24 : vs 24 = _ := hp 24 (by decide) (by decide)
        have p25 : vs 25 = _ := hp 25 (by decide) (by decide)
        have p26 : vs 26 = _ := hp 26 (by decide) (by decide)
        have p27 : vs 27 = _ := hp 27 (by decide) (by decide)
        have p28 : vs 28 = _ := hp 28 (by decide) (by decide)
        clear hp hl
        simp only [putAll_mk, setAll, List.setIfInBounds_toArray, List.set_cons_succ, List.set_cons_zero, p0, p1, p2, p3, p4, p5, p7, p8, p9, p10, p11, p12, p14, p15, p16, p17, p18, p19, p20, p21, p22, p23, p24, p25, p26, p27, p28]
        have HRR := Lib.hid hR
        clear hS hR hS0
        go_wp2
        go_ret
        exact ⟨rfl, HFin.out W HRR.out⟩
theorem bytes_row (w : World) (t : Td) (x : Cs) (more : ByteArray) (ht : goodTd t) (hx : SlOk w 5 40 encIm goodIm x.i ∧ SlOk w 1 8 intE intG x.n) (hm : more.size ≤ 140737488351232) :
    Calls Try.prog 10 #[.agg (encTd t).toArray, .agg (encCs x).toArray, .string more] w fun e w' => e = .returned (.bool true) ∧ Below w.heap.size w w' :=
  bytes_walk w t.a t.b t.c ht.1 ht.2.1 ht.2.2 _ _ _ x.i.xs _ _ _ x.n.xs more (ims_of hx.1) (ints_rd hx.2) (fun y hy => i64_range (hx.2.2.2.2.2.2.1 y hy).1) hm
end Go.Proofs.Ytfpocddpnoighaa.It

/- the document's cache: Get; both caches side by side. -/
import Derived.Test.YtbdcgfdchkbcnaaCaW
namespace Go.Proofs.Ytbdcgfdchkbcnaa.Ca
open Go.RowKit Go.Proofs.Ytbdcgfdchkbcnaa.L Go.Proofs.Ytbdcgfdchkbcnaa.O Go.Proofs.Ytbdcgfdchkbcnaa.R Go.Proofs.Ytbdcgfdchkbcnaa.A Go.Proofs.Ytbdcgfdchkbcnaa.S Go.Proofs.Ytbdcgfdchkbcnaa.T Go.Proofs.Ytbdcgfdchkbcnaa.C Go.Proofs.Ytbdcgfdchkbcnaa.G Go.Proofs.Ytbdcgfdchkbcnaa.E Go.Proofs.Ytbdcgfdchkbcnaa.F
set_option linter.unusedVariables false
set_option linter.unusedSimpArgs false

set_option maxHeartbeats 8000000 in
set_option maxRecDepth 100000 in
theorem dget_any (b room : Nat) (v : Value) (L : List Ent) (c : Int) (w : World) (h : Ca DT DE w b room v L) (hsm' : L.length ≤ 10000) :
    Calls Try.prog 57 #[.pointer (some ⟨b, 0, none⟩), .int .i64 c] w fun e w' => e = .returned (.tuple #[aggE (peekL c L).1, .bool (peekL c L).2]) ∧ GoesD b room v (getL c L) w w' := by
  obtain ⟨W, hW⟩ : ∃ W, Hid (w.alloc (.cells #[.int .i64 0, .int .i64 0, .int .i64 0, .int .i64 0] 94) = W) := ⟨_, Lib.hid rfl⟩
  have hb0 : Below w.heap.size w W := by rw [← hW.out]; exact below_alloc _ _
  have hW0 : W.heap[w.heap.size]? = some (.cells #[.int .i64 0, .int .i64 0, .int .i64 0, .int .i64 0] 94 (0, 0)) := by rw [← hW.out]; exact heap_alloc_new _ _
  have H0 := h.below hb0
  have HB := Lib.hid hb0
  have HAT := Lib.hid (at_any b room v L c W H0 (by omega))
  have HW0 := Lib.hid hW0
  have HH := Lib.hid H0
  have hlt := h.lt
  have HNE := Lib.hid h.ne
  cases hl : look c L with
  | none =>
    have hp : peekL c L = (z0, false) := by simp [peekL, hl]
    have hg : getL c L = L := by simp [getL, hl]
    rw [hp, hg]
    rw [show fnd c L = -1 by simp [fnd, hl]] at HAT
    dsimp only [aggE, z0]
    clear hb0 hW0 H0 h hl hp hg
    go_enter Try.func57, Try.ntmps57
    go_wp2_with fail
    rw [hW.out]
    refine HAT.out.mono ?_
    rintro e w1 ⟨rfl, rfl⟩
    go_wp2_with (refine wpList_store_blk rfl 94 (.tmp 4) (.tmp 13) rfl w.heap.size 0 rfl 94 _ (.agg #[.int .i64 0, .int .i64 0, .int .i64 0, .int .i64 0]) rfl HW0.out (by kernel_rfl) (by decide) (by simp [Value.cells, Value.oneCell']) _ rfl ?_; intro w5 hg5 hu5)
    have r0 : w5.cell? ⟨w.heap.size, 0, none⟩ = some (.int .i64 0) := by rw [cell_of_row w5 _ 0 _ _ _ hg5]; rfl
    have r1 : w5.cell? ⟨w.heap.size, 1, none⟩ = some (.int .i64 0) := by rw [cell_of_row w5 _ 1 _ _ _ hg5]; rfl
    have r2 : w5.cell? ⟨w.heap.size, 2, none⟩ = some (.int .i64 0) := by rw [cell_of_row w5 _ 2 _ _ _ hg5]; rfl
    have r3 : w5.cell? ⟨w.heap.size, 3, none⟩ = some (.int .i64 0) := by rw [cell_of_row w5 _ 3 _ _ _ hg5]; rfl
    refine bodyPost_ret (v := .tuple #[.agg #[.int .i64 0, .int .i64 0, .int .i64 0, .int .i64 0], .bool false]) (by simp [results, Try.results57, go_sem, r0, r1, r2, r3]) rfl ⟨rfl, ?_⟩
    have hkk : Keep [w.heap.size] W w5 := keep_upd hu5
    have hC5 : Ca DT DE w5 b room v L := HH.out.keep hkk (by simp; omega) (fun k hk => by have := (HNE.out k hk).2; simp; omega)
    exact ⟨v, hC5, Chg.of_below (HB.out.trans (hu5.below (Nat.le_refl _)))⟩
  | some i =>
    obtain ⟨hi, -, -⟩ := look_some hl
    obtain ⟨⟨z1, z2, z3, z4⟩, hei⟩ : ∃ ei : Ent, L[i] = ei := ⟨_, rfl⟩
    have hp : peekL c L = ((z1, z2, z3, z4), true) := by simp only [peekL, hl, getD_at hi, hei]
    have hg : getL c L = L.eraseIdx i ++ [(z1, z2, z3, z4)] := by simp only [getL, hl, getD_at hi, hei]
    rw [hp, hg]
    rw [show fnd c L = i by simp [fnd, hl]] at HAT
    dsimp only [aggE]
    obtain ⟨n, hn⟩ : ∃ n, L.length = n := ⟨_, rfl⟩
    have hin : i < n := by omega
    have hn9 : n ≤ 10000 := by omega
    obtain ⟨LX, hLX⟩ : ∃ LX, L.eraseIdx i = LX := ⟨_, rfl⟩
    have hsm : Hid (LX.length ≤ 100000) := Lib.hid (by rw [← hLX, List.length_eraseIdx]; split <;> omega)
    have HDR := Lib.hid (fun wx (hx : Ca DT DE wx b room v L) => ddrop_any b room v L c wx hx (by omega))
    rw [show ddropL c L = (L.eraseIdx i, true) by simp [ddropL, hl], hLX] at HDR
    rw [hLX]
    obtain ⟨A, cp, hvv, hr, -, -⟩ := H0.rd
    obtain ⟨r0, r1, -, -⟩ := H0.cell
    rw [hvv, hn] at r1
    obtain ⟨ab, ao, hAe, c0, c1, c2, c3⟩ := ent_at hr i hi hi _ hei
    subst hAe
    dsimp only at c0 c1 c2 c3
    -- the copy of the entry
    obtain ⟨xb, hxb⟩ : ∃ xb, Hid (W.heap.size = xb) := ⟨_, Lib.hid rfl⟩
    obtain ⟨W1, hW1⟩ : ∃ W1, Hid (W.alloc (.cells #[.int .i64 z1, .int .i64 z2, .int .i64 z3, .int .i64 z4] DE) = W1) := ⟨_, Lib.hid rfl⟩
    have hb1 : Below W.heap.size W W1 := by rw [← hW1.out]; exact below_alloc _ _
    have g1 : W1.heap[xb]? = some (.cells #[.int .i64 z1, .int .i64 z2, .int .i64 z3, .int .i64 z4] DE (0, 0)) := by rw [← hW1.out, ← hxb.out]; exact heap_alloc_new _ _
    have hxw : w.heap.size < xb := by rw [← hxb.out]; exact (Array.getElem?_eq_some_iff.1 hW0).1
    have hC1 := H0.below hb1
    have hg0 := (hb1.block w.heap.size (by rw [hxb.out]; exact hxw)).trans hW0
    have HB1 := Lib.hid hb1
    have HG0 := Lib.hid hg0
    have HG1 := Lib.hid g1
    have HC1 := Lib.hid hC1
    have HD := Lib.hid (HDR.out W1 hC1)
    clear hb0 hW0 H0 h hl hp hg hi hei hn hLX hr hb1 g1 hC1 hg0 hvv hsm'
    go_enter Try.func57, Try.ntmps57
    go_wp2_with fail
    rw [hW.out]
    refine HAT.out.mono ?_
    rintro e w1 ⟨rfl, rfl⟩
    go_wp2_with fail
    rw [hW1.out, hxb.out]
    refine HD.out.mono ?_
    rintro e w4 ⟨rfl, VV, hC4, hch4⟩
    clear r0 r1 c0 c1 c2 c3
    have hn1 : xb ∉ (b :: v.ownBlock.toList : List Nat) := fun hm => by
      rcases List.mem_cons.1 hm with e | hm
      · omega
      · have := (HNE.out xb (by simpa using hm)).2; omega
    have hn0 : w.heap.size ∉ (b :: v.ownBlock.toList : List Nat) := fun hm => by
      rcases List.mem_cons.1 hm with e | hm
      · omega
      · have := (HNE.out w.heap.size (by simpa using hm)).2; omega
    have g4 := keep_block hch4.keep HG1.out hn1
    have HT4 := Lib.hid (keep_block hch4.keep HG0.out hn0)
    have hs1 : xb < W1.heap.size := (Array.getElem?_eq_some_iff.1 HG1.out).1
    have hgx : VV.ownBlock ≠ some xb := fun hk => by
      rcases hch4.row with e | e
      · rw [e] at hk; exact hn1 (by simp [hk])
      · have := e _ hk; omega
    have HNX : Hid (w.heap.size ∉ (b :: VV.ownBlock.toList : List Nat)) := Lib.hid fun hm => by
      rcases List.mem_cons.1 hm with e | hm
      · omega
      · have hk : VV.ownBlock = some w.heap.size := by simpa using hm
        rcases hch4.row with e | e
        · rw [e] at hk; exact hn0 (by simp [hk])
        · have := e _ hk; omega
    have k0 : w4.cell? ⟨xb, 0, none⟩ = some (.int .i64 z1) := by rw [cell_of_row w4 _ 0 _ _ _ g4]; rfl
    have k1 : w4.cell? ⟨xb, 1, none⟩ = some (.int .i64 z2) := by rw [cell_of_row w4 _ 1 _ _ _ g4]; rfl
    have k2 : w4.cell? ⟨xb, 2, none⟩ = some (.int .i64 z3) := by rw [cell_of_row w4 _ 2 _ _ _ g4]; rfl
    have k3 : w4.cell? ⟨xb, 3, none⟩ = some (.int .i64 z4) := by rw [cell_of_row w4 _ 3 _ _ _ g4]; rfl
    have hb4 : b < w4.heap.size := hC4.lt
    have HS0 := Lib.hid (PushS.start w4.heap.size (z1, z2, z3, z4) hC4 (x := xb) (by omega) hgx (Nat.le_refl _) hb4 k0 k1 k2 k3)
    have hch : Chg b v w VV w4 := (Chg.of_below (below2 HB.out HB1.out)).trans hch4
    have hw4 : w.heap.size < w4.heap.size := by have h1 := hch4.keep.size; have h2 := HB1.out.size; have h3 := hxb.out; omega
    have HLAST : Hid (∀ W w5, PushS DT DE b room w4.heap.size xb VV LX (z1, z2, z3, z4) true true W → Keep (b :: VV.ownBlock.toList) w4.drew W → Keep [w.heap.size] W w5 → GoesD b room v (LX ++ [(z1, z2, z3, z4)]) w w5) := Lib.hid fun W w5 hs hk hk5 => by
      obtain ⟨v', hc, hv'⟩ := hs.last rfl
      have hr' : ∀ k, v'.ownBlock = some k → k ≠ w.heap.size := fun k hk e => by
        subst e
        rcases hv' with e | e
        · rw [e] at hk; exact HNX.out (by simp [hk])
        · have := e _ hk; omega
      have hcW : Chg b v w v' W := hch.trans ⟨((Keep.refl _ w4).drew).trans hk, hv'⟩
      exact ⟨v', hc.keep hk5 (by simp; omega) (fun k hk => by have := hr' k hk; simpa using this), keep_of_new hcW.keep hk5 (by simp), hcW.row⟩
    obtain ⟨VA, vc, hVVe⟩ := own_form4 hC4.own
    have hVV : Hid (VV = .slice VA LX.length vc) := Lib.hid (own_len hC4.own hVVe)
    have hS0 := HS0.out
    clear k0 k1 k2 k3 hgx hVVe g4 hC4 hch4 hch hn1 hn0
    go_wp2_with fail
    refine wp_region_done (fun d => PushS DT DE b room w4.heap.size xb VV LX (z1, z2, z3, z4) (d 7) (d 10)) (fun u v => Keep (b :: VV.ownBlock.toList) u v) (fun k u v => (k = 7 → (fun u v => Keep VV.ownBlock.toList u v) u v) ∧ (k = 10 → (fun u v => Keep [b] u v) u v) ∧ (¬ k = 7 → ¬ k = 10 → (fun u v => Below u.heap.size u v) u v)) (fun a i => match i with
        | 0 => (fun v _ => v = .pointer (some ⟨b, 0, none⟩))
        | 1 => (fun v _ => v = .pointer (some ⟨b, 0, none⟩))
        | 2 => (fun v _ => v = .pointer (some ⟨b, 0, none⟩))
        | 3 => (fun v _ => v = .pointer (some ⟨b, 1, none⟩))
        | 4 => (fun v _ => v = .slice VA LX.length vc)
        | 5 => (fun v _ => v = .agg #[.int .i64 z1, .int .i64 z2, .int .i64 z3, .int .i64 z4])
        | 6 => (fun v W => ∃ j, v = .slice (some ⟨j, 0, none⟩) 1 1 ∧ j < W.heap.size ∧ W.heap[j]? = some (.cells #[.int .i64 z1, .int .i64 z2, .int .i64 z3, .int .i64 z4] DE (0, 0)))
        | 7 => (fun v W => W.ownsRow (b + 1) DE 4 v (LX.length + 1) (LX.flatMap encE ++ encE (z1, z2, z3, z4)) ∧ (v.ownBlock = VV.ownBlock ∨ ∀ k, v.ownBlock = some k → w4.heap.size ≤ k))
        | 8 => (fun v _ => v = .pointer (some ⟨b, 0, none⟩))
        | 9 => (fun v _ => v = .pointer (some ⟨b, 1, none⟩))
        | 10 => (fun v W => True)
        | _ => (fun _ _ => True)) #[0, 0, 2, 6, 14, 0, 32, 126, 255, 511, 1023] #[0, 0, 2, 4, 8, 0, 32, 80, 1, 256, 640] 1855 (by kernel_rfl) 11 rfl (fun m hm => by subst hm; kernel_rfl) (by kernel_rfl) (fun w => Keep.refl _ w) (fun u v w h1 h2 => h1.trans h2) ?_ ?_ (hS0) ?_ ?_
    · intro k u v hk hr
      by_cases hs7 : k = 7
      · have h := hr.1 hs7; exact h.mono (by intro x hx; exact List.mem_cons_of_mem _ hx)
      by_cases hs10 : k = 10
      · have h := hr.2.1 hs10; exact h.mono (by simp)
      have h := hr.2.2 hs7 hs10; exact Keep.of_below h
    · intro i hi
      rcases (by omega : i = 0 ∨ i = 1 ∨ i = 2 ∨ i = 3 ∨ i = 4 ∨ i = 5 ∨ i = 6 ∨ i = 7 ∨ i = 8 ∨ i = 9 ∨ i = 10) with rfl | rfl | rfl | rfl | rfl | rfl | rfl | rfl | rfl | rfl | rfl
      · intro k hk y hy hyt v w w' h hr
        exact h
      · intro k hk y hy hyt v w w' h hr
        exact h
      · intro k hk y hy hyt v w w' h hr
        exact h
      · intro k hk y hy hyt v w w' h hr
        exact h
      · intro k hk y hy hyt v w w' h hr
        exact h
      · intro k hk y hy hyt v w w' h hr
        exact h
      · intro k hk y hy hyt v w w' h hr
        by_cases hs7 : k = 7
        · have hr0 := hr.1 hs7
          subst hs7
          exact absurd (hy.trans hyt) (ne_true_of_eq_false (by kernel_rfl))
        by_cases hs10 : k = 10
        · have hr0 := hr.2.1 hs10
          subst hs10
          exact absurd (hy.trans hyt) (ne_true_of_eq_false (by kernel_rfl))
        have hr := hr.2.2 hs7 hs10
        obtain ⟨j, h1, h2, h3⟩ := h; exact ⟨j, h1, Nat.lt_of_lt_of_le h2 hr.size, (hr.block j h2).trans h3⟩
      · intro k hk y hy hyt v w w' h hr
        by_cases hs7 : k = 7
        · have hr0 := hr.1 hs7
          subst hs7
          exact absurd (hy.trans hyt) (ne_true_of_eq_false (by kernel_rfl))
        by_cases hs10 : k = 10
        · have hr0 := hr.2.1 hs10
          subst hs10
          exact absurd (hy.trans hyt) (ne_true_of_eq_false (by kernel_rfl))
        have hr := hr.2.2 hs7 hs10
        exact ⟨own_kept h.1 hr, h.2⟩
      · intro k hk y hy hyt v w w' h hr
        exact h
      · intro k hk y hy hyt v w w' h hr
        exact h
      · intro k hk y hy hyt v w w' h hr
        by_cases hs7 : k = 7
        · have hr0 := hr.1 hs7
          subst hs7
          exact absurd (hy.trans hyt) (ne_true_of_eq_false (by kernel_rfl))
        by_cases hs10 : k = 10
        · have hr0 := hr.2.1 hs10
          subst hs10
          exact absurd (hy.trans hyt) (ne_true_of_eq_false (by kernel_rfl))
        have hr := hr.2.2 hs7 hs10
        exact trivial
    · intro i hi
      rcases (by omega : i = 0 ∨ i = 1 ∨ i = 2 ∨ i = 3 ∨ i = 4 ∨ i = 5 ∨ i = 6 ∨ i = 7 ∨ i = 8 ∨ i = 9 ∨ i = 10) with rfl | rfl | rfl | rfl | rfl | rfl | rfl | rfl | rfl | rfl | rfl
      · -- 0: Op.move (Operand.tmp 0)
        intro l hl vs W dn e1 e2 e3 hS hR hp
        have f7 : dn 7 = dn 7 := rfl
        have f10 : dn 10 = false := e3 10 (by kernel_rfl)
        replace hS : (PushS DT DE b room w4.heap.size xb VV LX (z1, z2, z3, z4) (dn 7) (dn 10)) W := hS
        rw [f10] at hS
        have g7 : (dn 7 || ((0 : Nat) == 7)) = dn 7 := Bool.or_false _
        have g10 : (dn 10 || ((0 : Nat) == 10)) = false := by rw [f10]; rfl
        refine OpGoal.imp (S1 := PushS DT DE b room w4.heap.size xb VV LX (z1, z2, z3, z4) (dn 7) false) (fun W' h => ?_) ?_
        · show (PushS DT DE b room w4.heap.size xb VV LX (z1, z2, z3, z4) (dn 7 || ((0 : Nat) == 7)) (dn 10 || ((0 : Nat) == 10))) W'
          rw [g7, g10]
          exact h
        clear g7 g10 e1 e2 e3
        obtain rfl : l = [] := hl.symm.trans (by kernel_rfl)
        clear hp hl
        refine opgoal (_) (some 24) rfl rfl fun K hK => ?_
        refine Runs.mk ?_
        simp only [putAll]
        go_simp
        refine hK _ _ ?_ hS ⟨fun h => absurd h (by decide), fun h => absurd h (by decide), fun h7 h10 => ((fun w => Below.refl _ w) W)⟩ _ rfl rfl
        first | rfl | go_simp | simp
      · -- 1: Op.move (Operand.tmp 0)
        intro l hl vs W dn e1 e2 e3 hS hR hp
        have f7 : dn 7 = false := e3 7 (by kernel_rfl)
        have f10 : dn 10 = false := e3 10 (by kernel_rfl)
        replace hS : (PushS DT DE b room w4.heap.size xb VV LX (z1, z2, z3, z4) (dn 7) (dn 10)) W := hS
        rw [f7, f10] at hS
        have g7 : (dn 7 || ((1 : Nat) == 7)) = false := by rw [f7]; rfl
        have g10 : (dn 10 || ((1 : Nat) == 10)) = false := by rw [f10]; rfl
        refine OpGoal.imp (S1 := PushS DT DE b room w4.heap.size xb VV LX (z1, z2, z3, z4) false false) (fun W' h => ?_) ?_
        · show (PushS DT DE b room w4.heap.size xb VV LX (z1, z2, z3, z4) (dn 7 || ((1 : Nat) == 7)) (dn 10 || ((1 : Nat) == 10))) W'
          rw [g7, g10]
          exact h
        clear g7 g10 e1 e2 e3
        obtain rfl : l = [] := hl.symm.trans (by kernel_rfl)
        clear hp hl
        refine opgoal (_) (some 25) rfl rfl fun K hK => ?_
        refine Runs.mk ?_
        simp only [putAll]
        go_simp
        refine hK _ _ ?_ hS ⟨fun h => absurd h (by decide), fun h => absurd h (by decide), fun h7 h10 => ((fun w => Below.refl _ w) W)⟩ _ rfl rfl
        first | rfl | go_simp | simp
      · -- 2: Op.nilCheck (Operand.tmp 25)
        intro l hl vs W dn e1 e2 e3 hS hR hp
        have f7 : dn 7 = false := e3 7 (by kernel_rfl)
        have f10 : dn 10 = false := e3 10 (by kernel_rfl)
        replace hS : (PushS DT DE b room w4.heap.size xb VV LX (z1, z2, z3, z4) (dn 7) (dn 10)) W := hS
        rw [f7, f10] at hS
        have g7 : (dn 7 || ((2 : Nat) == 7)) = false := by rw [f7]; rfl
        have g10 : (dn 10 || ((2 : Nat) == 10)) = false := by rw [f10]; rfl
        refine OpGoal.imp (S1 := PushS DT DE b room w4.heap.size xb VV LX (z1, z2, z3, z4) false false) (fun W' h => ?_) ?_
        · show (PushS DT DE b room w4.heap.size xb VV LX (z1, z2, z3, z4) (dn 7 || ((2 : Nat) == 7)) (dn 10 || ((2 : Nat) == 10))) W'
          rw [g7, g10]
          exact h
        clear g7 g10 e1 e2 e3
        obtain rfl : l = [(1, 25)] := hl.symm.trans (by kernel_rfl)
        have p1 : vs 1 = _ := hp 1 (by decide) (by decide)
        clear hp hl
        refine opgoal (_) (some 26) rfl rfl fun K hK => ?_
        refine Runs.mk ?_
        simp only [putAll]
        go_simp
        refine hK _ _ ?_ hS ⟨fun h => absurd h (by decide), fun h => absurd h (by decide), fun h7 h10 => ((fun w => Below.refl _ w) W)⟩ _ rfl rfl
        first | rfl | go_simp | simp
      · -- 3: Op.fieldAddr 92 (Operand.tmp 26) 1
        intro l hl vs W dn e1 e2 e3 hS hR hp
        have f7 : dn 7 = false := e3 7 (by kernel_rfl)
        have f10 : dn 10 = false := e3 10 (by kernel_rfl)
        replace hS : (PushS DT DE b room w4.heap.size xb VV LX (z1, z2, z3, z4) (dn 7) (dn 10)) W := hS
        rw [f7, f10] at hS
        have g7 : (dn 7 || ((3 : Nat) == 7)) = false := by rw [f7]; rfl
        have g10 : (dn 10 || ((3 : Nat) == 10)) = false := by rw [f10]; rfl
        refine OpGoal.imp (S1 := PushS DT DE b room w4.heap.size xb VV LX (z1, z2, z3, z4) false false) (fun W' h => ?_) ?_
        · show (PushS DT DE b room w4.heap.size xb VV LX (z1, z2, z3, z4) (dn 7 || ((3 : Nat) == 7)) (dn 10 || ((3 : Nat) == 10))) W'
          rw [g7, g10]
          exact h
        clear g7 g10 e1 e2 e3
        obtain rfl : l = [(1, 25), (2, 26)] := hl.symm.trans (by kernel_rfl)
        have p2 : vs 2 = _ := hp 2 (by decide) (by decide)
        clear hp hl
        refine opgoal (_) (some 27) rfl rfl fun K hK => ?_
        refine Runs.mk ?_
        simp only [putAll]
        go_simp
        refine hK _ _ ?_ hS ⟨fun h => absurd h (by decide), fun h => absurd h (by decide), fun h7 h10 => ((fun w => Below.refl _ w) W)⟩ _ rfl rfl
        first | rfl | go_simp | simp
      · -- 4: Op.load 90 (Operand.tmp 27)
        intro l hl vs W dn e1 e2 e3 hS hR hp
        have f7 : dn 7 = false := e3 7 (by kernel_rfl)
        have f10 : dn 10 = false := e3 10 (by kernel_rfl)
        replace hS : (PushS DT DE b room w4.heap.size xb VV LX (z1, z2, z3, z4) (dn 7) (dn 10)) W := hS
        rw [f7, f10] at hS
        have g7 : (dn 7 || ((4 : Nat) == 7)) = false := by rw [f7]; rfl
        have g10 : (dn 10 || ((4 : Nat) == 10)) = false := by rw [f10]; rfl
        refine OpGoal.imp (S1 := PushS DT DE b room w4.heap.size xb VV LX (z1, z2, z3, z4) false false) (fun W' h => ?_) ?_
        · show (PushS DT DE b room w4.heap.size xb VV LX (z1, z2, z3, z4) (dn 7 || ((4 : Nat) == 7)) (dn 10 || ((4 : Nat) == 10))) W'
          rw [g7, g10]
          exact h
        clear g7 g10 e1 e2 e3
        obtain rfl : l = [(1, 25), (2, 26), (3, 27)] := hl.symm.trans (by kernel_rfl)
        have p3 : vs 3 = _ := hp 3 (by decide) (by decide)
        clear hp hl
        refine opgoal (_) (some 28) rfl rfl fun K hK => ?_
        have hc1 : W.cell? ⟨b, 1, none⟩ = some VV := (hS.blk rfl).2
        rw [hVV.out] at hc1
        refine Runs.mk ?_
        simp only [putAll]
        go_simp
        refine hK _ _ ?_ hS ⟨fun h => absurd h (by decide), fun h => absurd h (by decide), fun h7 h10 => ((fun w => Below.refl _ w) W)⟩ _ rfl rfl
        first | rfl | go_simp | simp
      · -- 5: Op.load 94 (Operand.tmp 7)
        intro l hl vs W dn e1 e2 e3 hS hR hp
        have f7 : dn 7 = false := e3 7 (by kernel_rfl)
        have f10 : dn 10 = false := e3 10 (by kernel_rfl)
        replace hS : (PushS DT DE b room w4.heap.size xb VV LX (z1, z2, z3, z4) (dn 7) (dn 10)) W := hS
        rw [f7, f10] at hS
        have g7 : (dn 7 || ((5 : Nat) == 7)) = false := by rw [f7]; rfl
        have g10 : (dn 10 || ((5 : Nat) == 10)) = false := by rw [f10]; rfl
        refine OpGoal.imp (S1 := PushS DT DE b room w4.heap.size xb VV LX (z1, z2, z3, z4) false false) (fun W' h => ?_) ?_
        · show (PushS DT DE b room w4.heap.size xb VV LX (z1, z2, z3, z4) (dn 7 || ((5 : Nat) == 7)) (dn 10 || ((5 : Nat) == 10))) W'
          rw [g7, g10]
          exact h
        clear g7 g10 e1 e2 e3
        obtain rfl : l = [] := hl.symm.trans (by kernel_rfl)
        clear hp hl
        refine opgoal (_) (some 29) rfl rfl fun K hK => ?_
        obtain ⟨c0, c1, c2, c3⟩ := hS.ent
        dsimp only at c0 c1 c2 c3
        refine Runs.mk ?_
        simp only [putAll]
        go_simp
        refine hK _ _ ?_ hS ⟨fun h => absurd h (by decide), fun h => absurd h (by decide), fun h7 h10 => ((fun w => Below.refl _ w) W)⟩ _ rfl rfl
        first | rfl | go_simp | simp
      · -- 6: Op.buildSlice 90 1 #[(0, Operand.tmp 29)]
        intro l hl vs W dn e1 e2 e3 hS hR hp
        have f7 : dn 7 = false := e3 7 (by kernel_rfl)
        have f10 : dn 10 = false := e3 10 (by kernel_rfl)
        replace hS : (PushS DT DE b room w4.heap.size xb VV LX (z1, z2, z3, z4) (dn 7) (dn 10)) W := hS
        rw [f7, f10] at hS
        have g7 : (dn 7 || ((6 : Nat) == 7)) = false := by rw [f7]; rfl
        have g10 : (dn 10 || ((6 : Nat) == 10)) = false := by rw [f10]; rfl
        refine OpGoal.imp (S1 := PushS DT DE b room w4.heap.size xb VV LX (z1, z2, z3, z4) false false) (fun W' h => ?_) ?_
        · show (PushS DT DE b room w4.heap.size xb VV LX (z1, z2, z3, z4) (dn 7 || ((6 : Nat) == 7)) (dn 10 || ((6 : Nat) == 10))) W'
          rw [g7, g10]
          exact h
        clear g7 g10 e1 e2 e3
        obtain rfl : l = [(5, 29)] := hl.symm.trans (by kernel_rfl)
        have p5 : vs 5 = _ := hp 5 (by decide) (by decide)
        clear hp hl
        refine opgoal (_) (some 30) rfl rfl fun K hK => ?_
        refine Runs.mk ?_
        simp only [putAll]
        go_simp
        have hb := below_alloc W (.cells #[.int .i64 z1, .int .i64 z2, .int .i64 z3, .int .i64 z4] DE)
        exact hK _ _ ⟨W.heap.size, rfl, by simp, heap_alloc_new _ _⟩ (hS.below hb) ⟨(fun h => absurd h (by decide)), (fun h => absurd h (by decide)), fun h7 h10 => hb⟩ _ rfl rfl
      · -- 7: Op.call { callee := Callee.builtin Builtin.append, args := #[Operand.tmp 28, Operand.tmp 30], argTypes := #[90, 90] }
        intro l hl vs W dn e1 e2 e3 hS hR hp
        have f7 : dn 7 = false := e1
        have f10 : dn 10 = false := e3 10 (by kernel_rfl)
        replace hS : (PushS DT DE b room w4.heap.size xb VV LX (z1, z2, z3, z4) (dn 7) (dn 10)) W := hS
        rw [f7, f10] at hS
        have g7 : (dn 7 || ((7 : Nat) == 7)) = true := by rw [f7]; rfl
        have g10 : (dn 10 || ((7 : Nat) == 10)) = false := by rw [f10]; rfl
        refine OpGoal.imp (S1 := PushS DT DE b room w4.heap.size xb VV LX (z1, z2, z3, z4) true false) (fun W' h => ?_) ?_
        · show (PushS DT DE b room w4.heap.size xb VV LX (z1, z2, z3, z4) (dn 7 || ((7 : Nat) == 7)) (dn 10 || ((7 : Nat) == 10))) W'
          rw [g7, g10]
          exact h
        clear g7 g10 e1 e2 e3
        obtain rfl : l = [(1, 25), (2, 26), (3, 27), (4, 28), (5, 29), (6, 30)] := hl.symm.trans (by kernel_rfl)
        have p4 : vs 4 = _ := hp 4 (by decide) (by decide)
        have p6 : (fun v W => ∃ j, v = .slice (some ⟨j, 0, none⟩) 1 1 ∧ j < W.heap.size ∧ W.heap[j]? = some (.cells #[.int .i64 z1, .int .i64 z2, .int .i64 z3, .int .i64 z4] DE (0, 0))) (vs 6) W := hp 6 (by decide) (by decide)
        dsimp only at p6
        clear hp hl
        obtain ⟨j, q6, l6, b6⟩ := p6
        refine opgoal ({ dst := some 31, op := Op.call { callee := Callee.builtin Builtin.append, args := #[Operand.tmp 28, Operand.tmp 30], argTypes := #[90, 90] }, type := 90, pos := "ref.go:55", after := #[{ on := 4, ground := Ground.data }, { on := 6, ground := Ground.data }], guard := none }) (some 31) rfl rfl fun K hK => ?_
        refine runs_append_src W (wanted_none rfl) (.tmp 28) (.tmp 30) (b + 1) 90 DE (.agg #[.int .i64 0, .int .i64 0, .int .i64 0, .int .i64 0]) 4 32 rfl (by kernel_rfl) (by kernel_rfl) rfl (by decide) (by decide) VV LX.length (LX.flatMap encE) (by simp [putAll, Act.put, Act.eval, p4, hVV.out]) (hS.own rfl) (some ⟨j, 0, none⟩) 1 1 (by simp [putAll, Act.put, Act.eval, q6]) (fun h => by cases h) [.int .i64 z1, .int .i64 z2, .int .i64 z3, .int .i64 z4] rfl (lies_block b6) (by simp [Value.oneCell']) (by have := hsm.out; omega) (by have := hS.szw; have := hS.sb; omega) ?_
        intro v' w' h1 h2 h3
        have hkk : Keep VV.ownBlock.toList W w' := keep_grown h2 _ (fun j hj _ => by simp [hj])
        exact hK _ _ ⟨h1, h3.elim (fun h => .inl h) (fun h => .inr fun k hk => (by rw [h] at hk; cases hk; exact hS.szw))⟩ (hS.app hkk) ⟨(fun _ => hkk), (fun h => absurd h (by decide)), fun h7 h10 => absurd rfl h7⟩ _ put_dfs (put_slot (by simp))
      · -- 8: Op.nilCheck (Operand.tmp 24)
        intro l hl vs W dn e1 e2 e3 hS hR hp
        have f7 : dn 7 = true := e2 7 (by kernel_rfl)
        have f10 : dn 10 = false := e3 10 (by kernel_rfl)
        replace hS : (PushS DT DE b room w4.heap.size xb VV LX (z1, z2, z3, z4) (dn 7) (dn 10)) W := hS
        rw [f7, f10] at hS
        have g7 : (dn 7 || ((8 : Nat) == 7)) = true := by rw [f7]; rfl
        have g10 : (dn 10 || ((8 : Nat) == 10)) = false := by rw [f10]; rfl
        refine OpGoal.imp (S1 := PushS DT DE b room w4.heap.size xb VV LX (z1, z2, z3, z4) true false) (fun W' h => ?_) ?_
        · show (PushS DT DE b room w4.heap.size xb VV LX (z1, z2, z3, z4) (dn 7 || ((8 : Nat) == 7)) (dn 10 || ((8 : Nat) == 10))) W'
          rw [g7, g10]
          exact h
        clear g7 g10 e1 e2 e3
        obtain rfl : l = [(0, 24), (1, 25), (2, 26), (3, 27), (4, 28), (5, 29), (6, 30), (7, 31)] := hl.symm.trans (by kernel_rfl)
        have p0 : vs 0 = _ := hp 0 (by decide) (by decide)
        clear hp hl
        refine opgoal (_) (some 32) rfl rfl fun K hK => ?_
        refine Runs.mk ?_
        simp only [putAll]
        go_simp
        refine hK _ _ ?_ hS ⟨fun h => absurd h (by decide), fun h => absurd h (by decide), fun h7 h10 => ((fun w => Below.refl _ w) W)⟩ _ rfl rfl
        first | rfl | go_simp | simp
      · -- 9: Op.fieldAddr 92 (Operand.tmp 32) 1
        intro l hl vs W dn e1 e2 e3 hS hR hp
        have f7 : dn 7 = true := e2 7 (by kernel_rfl)
        have f10 : dn 10 = false := e3 10 (by kernel_rfl)
        replace hS : (PushS DT DE b room w4.heap.size xb VV LX (z1, z2, z3, z4) (dn 7) (dn 10)) W := hS
        rw [f7, f10] at hS
        have g7 : (dn 7 || ((9 : Nat) == 7)) = true := by rw [f7]; rfl
        have g10 : (dn 10 || ((9 : Nat) == 10)) = false := by rw [f10]; rfl
        refine OpGoal.imp (S1 := PushS DT DE b room w4.heap.size xb VV LX (z1, z2, z3, z4) true false) (fun W' h => ?_) ?_
        · show (PushS DT DE b room w4.heap.size xb VV LX (z1, z2, z3, z4) (dn 7 || ((9 : Nat) == 7)) (dn 10 || ((9 : Nat) == 10))) W'
          rw [g7, g10]
          exact h
        clear g7 g10 e1 e2 e3
        obtain rfl : l = [(0, 24), (1, 25), (2, 26), (3, 27), (4, 28), (5, 29), (6, 30), (7, 31), (8, 32)] := hl.symm.trans (by kernel_rfl)
        have p8 : vs 8 = _ := hp 8 (by decide) (by decide)
        clear hp hl
        refine opgoal (_) (some 33) rfl rfl fun K hK => ?_
        refine Runs.mk ?_
        simp only [putAll]
        go_simp
        refine hK _ _ ?_ hS ⟨fun h => absurd h (by decide), fun h => absurd h (by decide), fun h7 h10 => ((fun w => Below.refl _ w) W)⟩ _ rfl rfl
        first | rfl | go_simp | simp
      · -- 10: Op.store 90 (Operand.tmp 33) (Operand.tmp 31)
        intro l hl vs W dn e1 e2 e3 hS hR hp
        have f7 : dn 7 = true := e2 7 (by kernel_rfl)
        have f10 : dn 10 = false := e1
        replace hS : (PushS DT DE b room w4.heap.size xb VV LX (z1, z2, z3, z4) (dn 7) (dn 10)) W := hS
        rw [f7, f10] at hS
        have g7 : (dn 7 || ((10 : Nat) == 7)) = true := by rw [f7]; rfl
        have g10 : (dn 10 || ((10 : Nat) == 10)) = true := by rw [f10]; rfl
        refine OpGoal.imp (S1 := PushS DT DE b room w4.heap.size xb VV LX (z1, z2, z3, z4) true true) (fun W' h => ?_) ?_
        · show (PushS DT DE b room w4.heap.size xb VV LX (z1, z2, z3, z4) (dn 7 || ((10 : Nat) == 7)) (dn 10 || ((10 : Nat) == 10))) W'
          rw [g7, g10]
          exact h
        clear g7 g10 e1 e2 e3
        obtain rfl : l = [(0, 24), (1, 25), (2, 26), (3, 27), (4, 28), (5, 29), (6, 30), (7, 31), (8, 32), (9, 33)] := hl.symm.trans (by kernel_rfl)
        have p7 : (fun v W => W.ownsRow (b + 1) DE 4 v (LX.length + 1) (LX.flatMap encE ++ encE (z1, z2, z3, z4)) ∧ (v.ownBlock = VV.ownBlock ∨ ∀ k, v.ownBlock = some k → w4.heap.size ≤ k)) (vs 7) W := hp 7 (by decide) (by decide)
        dsimp only at p7
        have p9 : vs 9 = _ := hp 9 (by decide) (by decide)
        clear hp hl
        obtain ⟨o7, r7⟩ := p7
        refine opgoal (_) (none) rfl rfl fun K hK => ?_
        obtain ⟨A', c', q7⟩ := own_form4 o7
        rw [q7] at o7 r7
        have hc1 : W.cell? ⟨b, 1, none⟩ = some VV := (hS.blk rfl).2
        have hf1 : W.frozen? ⟨b, 1, none⟩ = false := frozen_of_row W _ _ _ _ (hS.blk rfl).1
        refine Runs.mk ?_
        simp only [putAll]
        go_simp
        exact hK undef _ trivial (hS.fin o7 r7) ⟨(fun h => absurd h (by decide)), (fun _ => (Keep.refl _ _).setCell (p := ⟨b, 1, none⟩) (.inl (by simp)) _), fun h7 h10 => absurd rfl h10⟩ _ rfl rfl
    · intro l hl vs W dn hd hS hR hp
      replace hS : (PushS DT DE b room w4.heap.size xb VV LX (z1, z2, z3, z4) (dn 7) (dn 10)) W := hS
      rw [hd 7 (by decide), hd 10 (by decide)] at hS
      obtain rfl : l = [(0, 24), (1, 25), (2, 26), (3, 27), (4, 28), (5, 29), (6, 30), (7, 31), (8, 32), (9, 33)] := hl.symm.trans (by kernel_rfl)
      have p0 : vs 0 = _ := hp 0 (by decide) (by decide)
      have p1 : vs 1 = _ := hp 1 (by decide) (by decide)
      have p2 : vs 2 = _ := hp 2 (by decide) (by decide)
      have p3 : vs 3 = _ := hp 3 (by decide) (by decide)
      have p4 : vs 4 = _ := hp 4 (by decide) (by decide)
      have p5 : vs 5 = _ := hp 5 (by decide) (by decide)
      have p8 : vs 8 = _ := hp 8 (by decide) (by decide)
      have p9 : vs 9 = _ := hp 9 (by decide) (by decide)
      have p10 : (fun v W => True) (vs 10) W := hp 10 (by decide) (by decide)
      dsimp only at p10
      clear hp hl
      simp only [putAll_mk, setAll, List.setIfInBounds_toArray, List.set_cons_succ, List.set_cons_zero, p0, p1, p2, p3, p4, p5, p8, p9]
      have HS := Lib.hid hS
      have HR := Lib.hid hR
      clear hS hR p10
      obtain ⟨k0, k1, k2, k3⟩ := HS.out.ent
      dsimp only at k0 k1 k2 k3
      have h4 := Lib.hid (keep_block HR.out HT4.out HNX.out)
      go_wp2_with (refine wpList_store_blk rfl 94 (.tmp 4) (.tmp 34) rfl w.heap.size 0 rfl 94 _ (.agg #[.int .i64 z1, .int .i64 z2, .int .i64 z3, .int .i64 z4]) rfl h4.out (by kernel_rfl) (by simp [Value.cells]) (by simp [Value.cells, Value.oneCell']) _ rfl ?_; intro w5 hg5 hu5)
      have r0 : w5.cell? ⟨w.heap.size, 0, none⟩ = some (.int .i64 z1) := by rw [cell_of_row w5 _ 0 _ _ _ hg5]; rfl
      have r1 : w5.cell? ⟨w.heap.size, 1, none⟩ = some (.int .i64 z2) := by rw [cell_of_row w5 _ 1 _ _ _ hg5]; rfl
      have r2 : w5.cell? ⟨w.heap.size, 2, none⟩ = some (.int .i64 z3) := by rw [cell_of_row w5 _ 2 _ _ _ hg5]; rfl
      have r3 : w5.cell? ⟨w.heap.size, 3, none⟩ = some (.int .i64 z4) := by rw [cell_of_row w5 _ 3 _ _ _ hg5]; rfl
      refine bodyPost_ret (v := .tuple #[.agg #[.int .i64 z1, .int .i64 z2, .int .i64 z3, .int .i64 z4], .bool true]) (by simp [results, Try.results57, go_sem, r0, r1, r2, r3]) rfl ⟨rfl, ?_⟩
      exact HLAST.out W w5 HS.out HR.out (keep_upd hu5)
end Go.Proofs.Ytbdcgfdchkbcnaa.Ca

/- the document's cache: Put. -/
import Derived.Test.YtbdcgfdchkbcnaaCaU
namespace Go.Proofs.Ytbdcgfdchkbcnaa.Ca
open Go.RowKit Go.Proofs.Ytbdcgfdchkbcnaa.L Go.Proofs.Ytbdcgfdchkbcnaa.O Go.Proofs.Ytbdcgfdchkbcnaa.R Go.Proofs.Ytbdcgfdchkbcnaa.A Go.Proofs.Ytbdcgfdchkbcnaa.S Go.Proofs.Ytbdcgfdchkbcnaa.T Go.Proofs.Ytbdcgfdchkbcnaa.C Go.Proofs.Ytbdcgfdchkbcnaa.G Go.Proofs.Ytbdcgfdchkbcnaa.E Go.Proofs.Ytbdcgfdchkbcnaa.F
set_option linter.unusedVariables false
set_option linter.unusedSimpArgs false

theorem own_len {w : World} {base : Nat} {e : TypeId} {sz n m c : Nat} {v : Value} {A : Option Addr} {xs : List Value} (h : w.ownsRow base e sz v n xs) (hv : v = .slice A m c) : v = .slice A n c := by
  subst hv
  rcases h.2 with ⟨h1, h2⟩ | ⟨g, cap, cur, h1, _⟩
  · injection h1 with h1 h3 h4; subst h1; subst h3; subst h4; rw [h2]
  · injection h1 with h1 h3 h4; subst h1; subst h3; subst h4; rfl
theorem push_fin {T E : TypeId} {b room x : Nat} {v v4 : Value} {L : List Ent} {e : Ent} {w w4 W : World} (hc : Chg b v w v4 w4) (hs : PushS T E b room w4.heap.size x v4 L e true true W) (hk : Keep (b :: v4.ownBlock.toList) w4.drew W) : ∃ v', Ca T E W b room v' (L ++ [e]) ∧ Chg b v w v' W := by
  obtain ⟨v', h1, h2⟩ := hs.last rfl
  exact ⟨v', h1, hc.trans ⟨((Keep.refl _ w4).drew).trans hk, h2⟩⟩
theorem look_zero {x : Ent} {L : List Ent} : look x.1 (x :: L) = some 0 := look_eq (by simp) rfl (fun j hj => absurd hj (by omega))
set_option maxHeartbeats 16000000 in
set_option maxRecDepth 100000 in
theorem dput_any (b room : Nat) (v : Value) (L : List Ent) (e : Ent) (w : World) (h : Ca DT DE w b room v L) (hlr : L.length ≤ room) (hrm : 0 < room ∧ room ≤ 10000) :
    Calls Try.prog 56 #[.pointer (some ⟨b, 0, none⟩), aggE e] w fun en w' => en = .returned (.bool (putL room e L).2) ∧ GoesD b room v (putL room e L).1 w w' := by
  obtain ⟨z1, z2, z3, z4⟩ := e
  obtain ⟨W0, hW0⟩ : ∃ W0, W0 = w.alloc (.cells #[.int .i64 z1, .int .i64 z2, .int .i64 z3, .int .i64 z4] 94) := ⟨_, rfl⟩
  have hb0 : Below w.heap.size w W0 := by rw [hW0]; exact below_alloc _ _
  have hs0 : w.heap.size < W0.heap.size := by rw [hW0, World.size_alloc]; exact Nat.lt_succ_self _
  have hce : ∀ j u, (#[.int .i64 z1, .int .i64 z2, .int .i64 z3, .int .i64 z4] : Array Value)[j]? = some u → W0.cell? ⟨w.heap.size, j, none⟩ = some u := fun j u hu => by rw [hW0, cell_alloc, hu]
  have H0 := h.below hb0
  have hlt := h.lt
  have HNE := Lib.hid h.ne
  -- the entry's own block stays
  have KC : Hid (∀ wx, Keep (b :: v.ownBlock.toList) W0 wx → wx.cell? ⟨w.heap.size, 0, none⟩ = some (.int .i64 z1) ∧ wx.cell? ⟨w.heap.size, 1, none⟩ = some (.int .i64 z2) ∧ wx.cell? ⟨w.heap.size, 2, none⟩ = some (.int .i64 z3) ∧ wx.cell? ⟨w.heap.size, 3, none⟩ = some (.int .i64 z4)) := Lib.hid fun wx hk => by
    have hn : w.heap.size ∉ (b :: v.ownBlock.toList : List Nat) := fun hm => by
      rcases List.mem_cons.1 hm with e | hm
      · omega
      · have := (HNE.out w.heap.size (by simpa using hm)).2; omega
    exact ⟨keep_cell hk (hce 0 _ rfl) hn, keep_cell hk (hce 1 _ rfl) hn, keep_cell hk (hce 2 _ rfl) hn, keep_cell hk (hce 3 _ rfl) hn⟩
  have GX : Hid (∀ v4 w4, Chg b v W0 v4 w4 → v4.ownBlock ≠ some w.heap.size) := Lib.hid fun v4 w4 hc hk => by
    rcases hc.row with e | e
    · rw [e] at hk; have := (HNE.out _ hk).2; omega
    · have := e _ hk; omega
  obtain ⟨n, hn⟩ : ∃ n, L.length = n := ⟨_, rfl⟩
  have hn9 : n ≤ 10000 := by omega
  have HAT := Lib.hid (at_any b room v L z1 W0 H0 (by omega))
  have HDR := Lib.hid (fun wx (hx : Ca DT DE wx b room v L) => ddrop_any b room v L z1 wx hx (by omega))
  obtain ⟨q0, q1, q2, q3⟩ := KC.out W0 (Keep.refl _ _)
  obtain ⟨A, cp, hvv, hr, hA, -⟩ := H0.rd
  obtain ⟨r0, r1, -, -⟩ := H0.cell
  rw [hvv, hn] at r1
  have HW0 := Lib.hid hW0
  have HB0 := Lib.hid hb0
  have HH0 := Lib.hid H0
  have hr0 := hrm.1
  have HN := Lib.hid hn
  have hnr : n ≤ room := by omega
  unfold aggE
  dsimp only
  cases hl : look z1 L with
  | some i =>
    obtain ⟨hi, -, -⟩ := look_some hl
    obtain ⟨ei, hei⟩ : ∃ ei : Ent, L[i] = ei := ⟨_, rfl⟩
    obtain ⟨ab, ao, hAe, c0, c1, c2, c3⟩ := ent_at hr i hi hi ei hei
    have hin : i < n := by omega
    rw [show fnd z1 L = i by simp [fnd, hl]] at HAT
    by_cases hv : z2 < (L.getD i z0).2.1
    · have hp : putL room (z1, z2, z3, z4) L = (L, false) := by simp only [putL, hl, hv, if_true]
      rw [hp]
      rw [getD_at hi, hei] at hv
      have hd : decide (z2 < ei.2.1) = true := by simpa using hv
      clear h hce hb0 hW0 hrm H0 hp hl hi hei hr hA hn hlr
      subst hAe
      go_enter Try.func56, Try.ntmps56
      go_wp2_with fail
      rw [← HW0.out]
      refine HAT.out.mono ?_
      rintro en w1 ⟨rfl, rfl⟩
      go_wp2_with fail
      go_quiet (fail)
      go_wp2
      go_ret
      exact ⟨rfl, v, HH0.out.below (below_drewN _ _), Chg.of_below (below2 HB0.out (below_drewN _ _))⟩
    · have hp : putL room (z1, z2, z3, z4) L = (L.eraseIdx i ++ [(z1, z2, z3, z4)], true) := by simp only [putL, hl, hv, if_false]
      rw [hp]
      rw [getD_at hi, hei] at hv
      have hd : decide (z2 < ei.2.1) = false := by simpa using hv
      rw [show ddropL z1 L = (L.eraseIdx i, true) by simp [ddropL, hl]] at HDR
      obtain ⟨LX, hLX⟩ : ∃ LX, L.eraseIdx i = LX := ⟨_, rfl⟩
      have hsm : Hid (LX.length ≤ 100000) := Lib.hid (by rw [← hLX, List.length_eraseIdx]; split <;> omega)
      rw [hLX] at HDR ⊢
      clear h hce hb0 hW0 hrm H0 hp hl hi hei hr hA hn hlr hLX
      subst hAe
      go_enter Try.func56, Try.ntmps56
      go_wp2_with fail
      rw [← HW0.out]
      refine HAT.out.mono ?_
      rintro en w1 ⟨rfl, rfl⟩
      go_wp2_with fail
      go_quiet (fail)
      clear q0 q1 q2 q3 r0 r1 c0 c1 c2 c3
      obtain ⟨W2, hW2⟩ : ∃ W2, W0.drewN nq = W2 := ⟨_, rfl⟩
      have hb2 : Below W0.heap.size W0 W2 := by rw [← hW2]; exact below_drewN _ _
      rw [hW2]
      obtain ⟨q0, q1, q2, q3⟩ := KC.out W2 (.of_below hb2)
      have HD := Lib.hid (HDR.out W2 (HH0.out.below hb2))
      have HB2 := Lib.hid hb2
      clear hb2 hW2
      go_wp2_with fail
      refine HD.out.mono ?_
      rintro en w3 ⟨rfl, VV, hC3, hch3⟩
      clear q0 q1 q2 q3
      have hdi : decide ((i : Int) < 0) = false := by simp
      go_wp2_with fail
      go_quiet (fail)
      obtain ⟨w4, hw4⟩ : ∃ w4, w3.drewN nq = w4 := ⟨_, rfl⟩
      have hb4 : Below w3.heap.size w3 w4 := by rw [← hw4]; exact below_drewN _ _
      rw [hw4]
      have hC4 := hC3.below hb4
      have hch0 : Chg b v W0 VV w4 := ((Chg.of_below HB2.out).trans hch3).below hb4
      have KW := Lib.hid hch0.keep
      have hch : Chg b v w VV w4 := (Chg.of_below HB0.out).trans hch0
      obtain ⟨k0', k1', k2', k3'⟩ := KC.out w4 KW.out
      have hb4 : b < w4.heap.size := hC4.lt
      have hgx : VV.ownBlock ≠ some w.heap.size := GX.out VV w4 hch0
      have HS0 := Lib.hid (PushS.start w4.heap.size (z1, z2, z3, z4) hC4 (x := w.heap.size) (by omega) hgx (Nat.le_refl _) hb4 k0' k1' k2' k3')
      have HFIN : Hid (∀ W, PushS DT DE b room w4.heap.size w.heap.size VV LX (z1, z2, z3, z4) true true W → Keep (b :: VV.ownBlock.toList) w4.drew W → GoesD b room v (LX ++ [(z1, z2, z3, z4)]) w W) := Lib.hid fun W hs hk => push_fin hch hs hk
      obtain ⟨VA, vc, hVVe⟩ := own_form4 hC4.own
      have hVV : Hid (VV = .slice VA LX.length vc) := Lib.hid (own_len hC4.own hVVe)
      have hS0 := HS0.out
      clear k0' k1' k2' k3' hgx hVVe
      clear hC3 hch3 hb4 hw4 hC4 hch0 hch hdi
      go_wp2_with fail
      refine wp_region_done (fun d => PushS DT DE b room w4.heap.size w.heap.size VV LX (z1, z2, z3, z4) (d 7) (d 10)) (fun u v => Keep (b :: VV.ownBlock.toList) u v) (fun k u v => (k = 7 → (fun u v => Keep VV.ownBlock.toList u v) u v) ∧ (k = 10 → (fun u v => Keep [b] u v) u v) ∧ (¬ k = 7 → ¬ k = 10 → (fun u v => Below u.heap.size u v) u v)) (fun a i => match i with
          | 0 => (fun v _ => v = .pointer (some ⟨b, 0, none⟩))
          | 1 => (fun v _ => v = .pointer (some ⟨b, 0, none⟩))
          | 2 => (fun v _ => v = .pointer (some ⟨b, 0, none⟩))
          | 3 => (fun v _ => v = .pointer (some ⟨b, 1, none⟩))
          | 4 => (fun v _ => v = .slice VA LX.length vc)
          | 5 => (fun v _ => v = .agg #[.int .i64 z1, .int .i64 z2, .int .i64 z3, .int .i64 z4])
          | 6 => (fun v W => ∃ j, v = .slice (some ⟨j, 0, none⟩) 1 1 ∧ j < W.heap.size ∧ W.heap[j]? = some (.cells #[.int .i64 z1, .int .i64 z2, .int .i64 z3, .int .i64 z4] DE (0, 0)))
          | 7 => (fun v W => W.ownsRow (b + 1) DE 4 v (LX.length + 1) (LX.flatMap encE ++ encE (z1, z2, z3, z4)) ∧ (v.ownBlock = VV.ownBlock ∨ ∀ k, v.ownBlock = some k → w4.heap.size ≤ k))
          | 8 => (fun v _ => v = .pointer (some ⟨b, 0, none⟩))
          | 9 => (fun v _ => v = .pointer (some ⟨b, 1, none⟩))
          | 10 => (fun v W => True)
          | _ => (fun _ _ => True)) #[0, 0, 2, 6, 14, 0, 32, 126, 255, 511, 1023] #[0, 0, 2, 4, 8, 0, 32, 80, 1, 256, 640] 1855 (by kernel_rfl) 11 rfl (fun m hm => by subst hm; kernel_rfl) (by kernel_rfl) (fun w => Keep.refl _ w) (fun u v w h1 h2 => h1.trans h2) ?_ ?_ (hS0) ?_ ?_
      · intro k u v hk hr
        by_cases hs7 : k = 7
        · have h := hr.1 hs7; exact h.mono (by intro x hx; exact List.mem_cons_of_mem _ hx)
        by_cases hs10 : k = 10
        · have h := hr.2.1 hs10; exact h.mono (by simp)
        have h := hr.2.2 hs7 hs10; exact Keep.of_below h
      · intro i hi
        rcases (by omega : i = 0 ∨ i = 1 ∨ i = 2 ∨ i = 3 ∨ i = 4 ∨ i = 5 ∨ i = 6 ∨ i = 7 ∨ i = 8 ∨ i = 9 ∨ i = 10) with rfl | rfl | rfl | rfl | rfl | rfl | rfl | rfl | rfl | rfl | rfl
        · intro k hk y hy hyt v w w' h hr
          exact h
        · intro k hk y hy hyt v w w' h hr
          exact h
        · intro k hk y hy hyt v w w' h hr
          exact h
        · intro k hk y hy hyt v w w' h hr
          exact h
        · intro k hk y hy hyt v w w' h hr
          exact h
        · intro k hk y hy hyt v w w' h hr
          exact h
        · intro k hk y hy hyt v w w' h hr
          by_cases hs7 : k = 7
          · have hr0 := hr.1 hs7
            subst hs7
            exact absurd (hy.trans hyt) (ne_true_of_eq_false (by kernel_rfl))
          by_cases hs10 : k = 10
          · have hr0 := hr.2.1 hs10
            subst hs10
            exact absurd (hy.trans hyt) (ne_true_of_eq_false (by kernel_rfl))
          have hr := hr.2.2 hs7 hs10
          obtain ⟨j, h1, h2, h3⟩ := h; exact ⟨j, h1, Nat.lt_of_lt_of_le h2 hr.size, (hr.block j h2).trans h3⟩
        · intro k hk y hy hyt v w w' h hr
          by_cases hs7 : k = 7
          · have hr0 := hr.1 hs7
            subst hs7
            exact absurd (hy.trans hyt) (ne_true_of_eq_false (by kernel_rfl))
          by_cases hs10 : k = 10
          · have hr0 := hr.2.1 hs10
            subst hs10
            exact absurd (hy.trans hyt) (ne_true_of_eq_false (by kernel_rfl))
          have hr := hr.2.2 hs7 hs10
          exact ⟨own_kept h.1 hr, h.2⟩
        · intro k hk y hy hyt v w w' h hr
          exact h
        · intro k hk y hy hyt v w w' h hr
          exact h
        · intro k hk y hy hyt v w w' h hr
          by_cases hs7 : k = 7
          · have hr0 := hr.1 hs7
            subst hs7
            exact absurd (hy.trans hyt) (ne_true_of_eq_false (by kernel_rfl))
          by_cases hs10 : k = 10
          · have hr0 := hr.2.1 hs10
            subst hs10
            exact absurd (hy.trans hyt) (ne_true_of_eq_false (by kernel_rfl))
          have hr := hr.2.2 hs7 hs10
          exact trivial
      · intro i hi
        rcases (by omega : i = 0 ∨ i = 1 ∨ i = 2 ∨ i = 3 ∨ i = 4 ∨ i = 5 ∨ i = 6 ∨ i = 7 ∨ i = 8 ∨ i = 9 ∨ i = 10) with rfl | rfl | rfl | rfl | rfl | rfl | rfl | rfl | rfl | rfl | rfl
        · -- 0: Op.move (Operand.tmp 0)
          intro l hl vs W dn e1 e2 e3 hS hR hp
          have f7 : dn 7 = dn 7 := rfl
          have f10 : dn 10 = false := e3 10 (by kernel_rfl)
          replace hS : (PushS DT DE b room w4.heap.size w.heap.size VV LX (z1, z2, z3, z4) (dn 7) (dn 10)) W := hS
          rw [f10] at hS
          have g7 : (dn 7 || ((0 : Nat) == 7)) = dn 7 := Bool.or_false _
          have g10 : (dn 10 || ((0 : Nat) == 10)) = false := by rw [f10]; rfl
          refine OpGoal.imp (S1 := PushS DT DE b room w4.heap.size w.heap.size VV LX (z1, z2, z3, z4) (dn 7) false) (fun W' h => ?_) ?_
          · show (PushS DT DE b room w4.heap.size w.heap.size VV LX (z1, z2, z3, z4) (dn 7 || ((0 : Nat) == 7)) (dn 10 || ((0 : Nat) == 10))) W'
            rw [g7, g10]
            exact h
          clear g7 g10 e1 e2 e3
          obtain rfl : l = [] := hl.symm.trans (by kernel_rfl)
          clear hp hl
          refine opgoal (_) (some 52) rfl rfl fun K hK => ?_
          refine Runs.mk ?_
          simp only [putAll]
          go_simp
          refine hK _ _ ?_ hS ⟨fun h => absurd h (by decide), fun h => absurd h (by decide), fun h7 h10 => ((fun w => Below.refl _ w) W)⟩ _ rfl rfl
          first | rfl | go_simp | simp
        · -- 1: Op.move (Operand.tmp 0)
          intro l hl vs W dn e1 e2 e3 hS hR hp
          have f7 : dn 7 = false := e3 7 (by kernel_rfl)
          have f10 : dn 10 = false := e3 10 (by kernel_rfl)
          replace hS : (PushS DT DE b room w4.heap.size w.heap.size VV LX (z1, z2, z3, z4) (dn 7) (dn 10)) W := hS
          rw [f7, f10] at hS
          have g7 : (dn 7 || ((1 : Nat) == 7)) = false := by rw [f7]; rfl
          have g10 : (dn 10 || ((1 : Nat) == 10)) = false := by rw [f10]; rfl
          refine OpGoal.imp (S1 := PushS DT DE b room w4.heap.size w.heap.size VV LX (z1, z2, z3, z4) false false) (fun W' h => ?_) ?_
          · show (PushS DT DE b room w4.heap.size w.heap.size VV LX (z1, z2, z3, z4) (dn 7 || ((1 : Nat) == 7)) (dn 10 || ((1 : Nat) == 10))) W'
            rw [g7, g10]
            exact h
          clear g7 g10 e1 e2 e3
          obtain rfl : l = [] := hl.symm.trans (by kernel_rfl)
          clear hp hl
          refine opgoal (_) (some 53) rfl rfl fun K hK => ?_
          refine Runs.mk ?_
          simp only [putAll]
          go_simp
          refine hK _ _ ?_ hS ⟨fun h => absurd h (by decide), fun h => absurd h (by decide), fun h7 h10 => ((fun w => Below.refl _ w) W)⟩ _ rfl rfl
          first | rfl | go_simp | simp
        · -- 2: Op.nilCheck (Operand.tmp 53)
          intro l hl vs W dn e1 e2 e3 hS hR hp
          have f7 : dn 7 = false := e3 7 (by kernel_rfl)
          have f10 : dn 10 = false := e3 10 (by kernel_rfl)
          replace hS : (PushS DT DE b room w4.heap.size w.heap.size VV LX (z1, z2, z3, z4) (dn 7) (dn 10)) W := hS
          rw [f7, f10] at hS
          have g7 : (dn 7 || ((2 : Nat) == 7)) = false := by rw [f7]; rfl
          have g10 : (dn 10 || ((2 : Nat) == 10)) = false := by rw [f10]; rfl
          refine OpGoal.imp (S1 := PushS DT DE b room w4.heap.size w.heap.size VV LX (z1, z2, z3, z4) false false) (fun W' h => ?_) ?_
          · show (PushS DT DE b room w4.heap.size w.heap.size VV LX (z1, z2, z3, z4) (dn 7 || ((2 : Nat) == 7)) (dn 10 || ((2 : Nat) == 10))) W'
            rw [g7, g10]
            exact h
          clear g7 g10 e1 e2 e3
          obtain rfl : l = [(1, 53)] := hl.symm.trans (by kernel_rfl)
          have p1 : vs 1 = _ := hp 1 (by decide) (by decide)
          clear hp hl
          refine opgoal (_) (some 54) rfl rfl fun K hK => ?_
          refine Runs.mk ?_
          simp only [putAll]
          go_simp
          refine hK _ _ ?_ hS ⟨fun h => absurd h (by decide), fun h => absurd h (by decide), fun h7 h10 => ((fun w => Below.refl _ w) W)⟩ _ rfl rfl
          first | rfl | go_simp | simp
        · -- 3: Op.fieldAddr 92 (Operand.tmp 54) 1
          intro l hl vs W dn e1 e2 e3 hS hR hp
          have f7 : dn 7 = false := e3 7 (by kernel_rfl)
          have f10 : dn 10 = false := e3 10 (by kernel_rfl)
          replace hS : (PushS DT DE b room w4.heap.size w.heap.size VV LX (z1, z2, z3, z4) (dn 7) (dn 10)) W := hS
          rw [f7, f10] at hS
          have g7 : (dn 7 || ((3 : Nat) == 7)) = false := by rw [f7]; rfl
          have g10 : (dn 10 || ((3 : Nat) == 10)) = false := by rw [f10]; rfl
          refine OpGoal.imp (S1 := PushS DT DE b room w4.heap.size w.heap.size VV LX (z1, z2, z3, z4) false false) (fun W' h => ?_) ?_
          · show (PushS DT DE b room w4.heap.size w.heap.size VV LX (z1, z2, z3, z4) (dn 7 || ((3 : Nat) == 7)) (dn 10 || ((3 : Nat) == 10))) W'
            rw [g7, g10]
            exact h
          clear g7 g10 e1 e2 e3
          obtain rfl : l = [(1, 53), (2, 54)] := hl.symm.trans (by kernel_rfl)
          have p2 : vs 2 = _ := hp 2 (by decide) (by decide)
          clear hp hl
          refine opgoal (_) (some 55) rfl rfl fun K hK => ?_
          refine Runs.mk ?_
          simp only [putAll]
          go_simp
          refine hK _ _ ?_ hS ⟨fun h => absurd h (by decide), fun h => absurd h (by decide), fun h7 h10 => ((fun w => Below.refl _ w) W)⟩ _ rfl rfl
          first | rfl | go_simp | simp
        · -- 4: Op.load 90 (Operand.tmp 55)
          intro l hl vs W dn e1 e2 e3 hS hR hp
          have f7 : dn 7 = false := e3 7 (by kernel_rfl)
          have f10 : dn 10 = false := e3 10 (by kernel_rfl)
          replace hS : (PushS DT DE b room w4.heap.size w.heap.size VV LX (z1, z2, z3, z4) (dn 7) (dn 10)) W := hS
          rw [f7, f10] at hS
          have g7 : (dn 7 || ((4 : Nat) == 7)) = false := by rw [f7]; rfl
          have g10 : (dn 10 || ((4 : Nat) == 10)) = false := by rw [f10]; rfl
          refine OpGoal.imp (S1 := PushS DT DE b room w4.heap.size w.heap.size VV LX (z1, z2, z3, z4) false false) (fun W' h => ?_) ?_
          · show (PushS DT DE b room w4.heap.size w.heap.size VV LX (z1, z2, z3, z4) (dn 7 || ((4 : Nat) == 7)) (dn 10 || ((4 : Nat) == 10))) W'
            rw [g7, g10]
            exact h
          clear g7 g10 e1 e2 e3
          obtain rfl : l = [(1, 53), (2, 54), (3, 55)] := hl.symm.trans (by kernel_rfl)
          have p3 : vs 3 = _ := hp 3 (by decide) (by decide)
          clear hp hl
          refine opgoal (_) (some 56) rfl rfl fun K hK => ?_
          have hc1 : W.cell? ⟨b, 1, none⟩ = some VV := (hS.blk rfl).2
          rw [hVV.out] at hc1
          refine Runs.mk ?_
          simp only [putAll]
          go_simp
          refine hK _ _ ?_ hS ⟨fun h => absurd h (by decide), fun h => absurd h (by decide), fun h7 h10 => ((fun w => Below.refl _ w) W)⟩ _ rfl rfl
          first | rfl | go_simp | simp
        · -- 5: Op.load 94 (Operand.tmp 3)
          intro l hl vs W dn e1 e2 e3 hS hR hp
          have f7 : dn 7 = false := e3 7 (by kernel_rfl)
          have f10 : dn 10 = false := e3 10 (by kernel_rfl)
          replace hS : (PushS DT DE b room w4.heap.size w.heap.size VV LX (z1, z2, z3, z4) (dn 7) (dn 10)) W := hS
          rw [f7, f10] at hS
          have g7 : (dn 7 || ((5 : Nat) == 7)) = false := by rw [f7]; rfl
          have g10 : (dn 10 || ((5 : Nat) == 10)) = false := by rw [f10]; rfl
          refine OpGoal.imp (S1 := PushS DT DE b room w4.heap.size w.heap.size VV LX (z1, z2, z3, z4) false false) (fun W' h => ?_) ?_
          · show (PushS DT DE b room w4.heap.size w.heap.size VV LX (z1, z2, z3, z4) (dn 7 || ((5 : Nat) == 7)) (dn 10 || ((5 : Nat) == 10))) W'
            rw [g7, g10]
            exact h
          clear g7 g10 e1 e2 e3
          obtain rfl : l = [] := hl.symm.trans (by kernel_rfl)
          clear hp hl
          refine opgoal (_) (some 57) rfl rfl fun K hK => ?_
          obtain ⟨c0, c1, c2, c3⟩ := hS.ent
          dsimp only at c0 c1 c2 c3
          refine Runs.mk ?_
          simp only [putAll]
          go_simp
          refine hK _ _ ?_ hS ⟨fun h => absurd h (by decide), fun h => absurd h (by decide), fun h7 h10 => ((fun w => Below.refl _ w) W)⟩ _ rfl rfl
          first | rfl | go_simp | simp
        · -- 6: Op.buildSlice 90 1 #[(0, Operand.tmp 57)]
          intro l hl vs W dn e1 e2 e3 hS hR hp
          have f7 : dn 7 = false := e3 7 (by kernel_rfl)
          have f10 : dn 10 = false := e3 10 (by kernel_rfl)
          replace hS : (PushS DT DE b room w4.heap.size w.heap.size VV LX (z1, z2, z3, z4) (dn 7) (dn 10)) W := hS
          rw [f7, f10] at hS
          have g7 : (dn 7 || ((6 : Nat) == 7)) = false := by rw [f7]; rfl
          have g10 : (dn 10 || ((6 : Nat) == 10)) = false := by rw [f10]; rfl
          refine OpGoal.imp (S1 := PushS DT DE b room w4.heap.size w.heap.size VV LX (z1, z2, z3, z4) false false) (fun W' h => ?_) ?_
          · show (PushS DT DE b room w4.heap.size w.heap.size VV LX (z1, z2, z3, z4) (dn 7 || ((6 : Nat) == 7)) (dn 10 || ((6 : Nat) == 10))) W'
            rw [g7, g10]
            exact h
          clear g7 g10 e1 e2 e3
          obtain rfl : l = [(5, 57)] := hl.symm.trans (by kernel_rfl)
          have p5 : vs 5 = _ := hp 5 (by decide) (by decide)
          clear hp hl
          refine opgoal (_) (some 58) rfl rfl fun K hK => ?_
          refine Runs.mk ?_
          simp only [putAll]
          go_simp
          have hb := below_alloc W (.cells #[.int .i64 z1, .int .i64 z2, .int .i64 z3, .int .i64 z4] DE)
          exact hK _ _ ⟨W.heap.size, rfl, by simp, heap_alloc_new _ _⟩ (hS.below hb) ⟨(fun h => absurd h (by decide)), (fun h => absurd h (by decide)), fun h7 h10 => hb⟩ _ rfl rfl
        · -- 7: Op.call { callee := Callee.builtin Builtin.append, args := #[Operand.tmp 56, Operand.tmp 58], argTypes := #[90, 90] }
          intro l hl vs W dn e1 e2 e3 hS hR hp
          have f7 : dn 7 = false := e1
          have f10 : dn 10 = false := e3 10 (by kernel_rfl)
          replace hS : (PushS DT DE b room w4.heap.size w.heap.size VV LX (z1, z2, z3, z4) (dn 7) (dn 10)) W := hS
          rw [f7, f10] at hS
          have g7 : (dn 7 || ((7 : Nat) == 7)) = true := by rw [f7]; rfl
          have g10 : (dn 10 || ((7 : Nat) == 10)) = false := by rw [f10]; rfl
          refine OpGoal.imp (S1 := PushS DT DE b room w4.heap.size w.heap.size VV LX (z1, z2, z3, z4) true false) (fun W' h => ?_) ?_
          · show (PushS DT DE b room w4.heap.size w.heap.size VV LX (z1, z2, z3, z4) (dn 7 || ((7 : Nat) == 7)) (dn 10 || ((7 : Nat) == 10))) W'
            rw [g7, g10]
            exact h
          clear g7 g10 e1 e2 e3
          obtain rfl : l = [(1, 53), (2, 54), (3, 55), (4, 56), (5, 57), (6, 58)] := hl.symm.trans (by kernel_rfl)
          have p4 : vs 4 = _ := hp 4 (by decide) (by decide)
          have p6 : (fun v W => ∃ j, v = .slice (some ⟨j, 0, none⟩) 1 1 ∧ j < W.heap.size ∧ W.heap[j]? = some (.cells #[.int .i64 z1, .int .i64 z2, .int .i64 z3, .int .i64 z4] DE (0, 0))) (vs 6) W := hp 6 (by decide) (by decide)
          dsimp only at p6
          clear hp hl
          obtain ⟨j, q6, l6, b6⟩ := p6
          refine opgoal ({ dst := some 59, op := Op.call { callee := Callee.builtin Builtin.append, args := #[Operand.tmp 56, Operand.tmp 58], argTypes := #[90, 90] }, type := 90, pos := "ref.go:43", after := #[{ on := 4, ground := Ground.data }, { on := 6, ground := Ground.data }], guard := none }) (some 59) rfl rfl fun K hK => ?_
          refine runs_append_src W (wanted_none rfl) (.tmp 56) (.tmp 58) (b + 1) 90 DE (.agg #[.int .i64 0, .int .i64 0, .int .i64 0, .int .i64 0]) 4 32 rfl (by kernel_rfl) (by kernel_rfl) rfl (by decide) (by decide) VV LX.length (LX.flatMap encE) (by simp [putAll, Act.put, Act.eval, p4, hVV.out]) (hS.own rfl) (some ⟨j, 0, none⟩) 1 1 (by simp [putAll, Act.put, Act.eval, q6]) (fun h => by cases h) [.int .i64 z1, .int .i64 z2, .int .i64 z3, .int .i64 z4] rfl (lies_block b6) (by simp [Value.oneCell']) (by have := hsm.out; omega) (by have := hS.szw; have := hS.sb; omega) ?_
          intro v' w' h1 h2 h3
          have hkk : Keep VV.ownBlock.toList W w' := keep_grown h2 _ (fun j hj _ => by simp [hj])
          exact hK _ _ ⟨h1, h3.elim (fun h => .inl h) (fun h => .inr fun k hk => (by rw [h] at hk; cases hk; exact hS.szw))⟩ (hS.app hkk) ⟨(fun _ => hkk), (fun h => absurd h (by decide)), fun h7 h10 => absurd rfl h7⟩ _ put_dfs (put_slot (by simp))
        · -- 8: Op.nilCheck (Operand.tmp 52)
          intro l hl vs W dn e1 e2 e3 hS hR hp
          have f7 : dn 7 = true := e2 7 (by kernel_rfl)
          have f10 : dn 10 = false := e3 10 (by kernel_rfl)
          replace hS : (PushS DT DE b room w4.heap.size w.heap.size VV LX (z1, z2, z3, z4) (dn 7) (dn 10)) W := hS
          rw [f7, f10] at hS
          have g7 : (dn 7 || ((8 : Nat) == 7)) = true := by rw [f7]; rfl
          have g10 : (dn 10 || ((8 : Nat) == 10)) = false := by rw [f10]; rfl
          refine OpGoal.imp (S1 := PushS DT DE b room w4.heap.size w.heap.size VV LX (z1, z2, z3, z4) true false) (fun W' h => ?_) ?_
          · show (PushS DT DE b room w4.heap.size w.heap.size VV LX (z1, z2, z3, z4) (dn 7 || ((8 : Nat) == 7)) (dn 10 || ((8 : Nat) == 10))) W'
            rw [g7, g10]
            exact h
          clear g7 g10 e1 e2 e3
          obtain rfl : l = [(0, 52), (1, 53), (2, 54), (3, 55), (4, 56), (5, 57), (6, 58), (7, 59)] := hl.symm.trans (by kernel_rfl)
          have p0 : vs 0 = _ := hp 0 (by decide) (by decide)
          clear hp hl
          refine opgoal (_) (some 60) rfl rfl fun K hK => ?_
          refine Runs.mk ?_
          simp only [putAll]
          go_simp
          refine hK _ _ ?_ hS ⟨fun h => absurd h (by decide), fun h => absurd h (by decide), fun h7 h10 => ((fun w => Below.refl _ w) W)⟩ _ rfl rfl
          first | rfl | go_simp | simp
        · -- 9: Op.fieldAddr 92 (Operand.tmp 60) 1
          intro l hl vs W dn e1 e2 e3 hS hR hp
          have f7 : dn 7 = true := e2 7 (by kernel_rfl)
          have f10 : dn 10 = false := e3 10 (by kernel_rfl)
          replace hS : (PushS DT DE b room w4.heap.size w.heap.size VV LX (z1, z2, z3, z4) (dn 7) (dn 10)) W := hS
          rw [f7, f10] at hS
          have g7 : (dn 7 || ((9 : Nat) == 7)) = true := by rw [f7]; rfl
          have g10 : (dn 10 || ((9 : Nat) == 10)) = false := by rw [f10]; rfl
          refine OpGoal.imp (S1 := PushS DT DE b room w4.heap.size w.heap.size VV LX (z1, z2, z3, z4) true false) (fun W' h => ?_) ?_
          · show (PushS DT DE b room w4.heap.size w.heap.size VV LX (z1, z2, z3, z4) (dn 7 || ((9 : Nat) == 7)) (dn 10 || ((9 : Nat) == 10))) W'
            rw [g7, g10]
            exact h
          clear g7 g10 e1 e2 e3
          obtain rfl : l = [(0, 52), (1, 53), (2, 54), (3, 55), (4, 56), (5, 57), (6, 58), (7, 59), (8, 60)] := hl.symm.trans (by kernel_rfl)
          have p8 : vs 8 = _ := hp 8 (by decide) (by decide)
          clear hp hl
          refine opgoal (_) (some 61) rfl rfl fun K hK => ?_
          refine Runs.mk ?_
          simp only [putAll]
          go_simp
          refine hK _ _ ?_ hS ⟨fun h => absurd h (by decide), fun h => absurd h (by decide), fun h7 h10 => ((fun w => Below.refl _ w) W)⟩ _ rfl rfl
          first | rfl | go_simp | simp
        · -- 10: Op.store 90 (Operand.tmp 61) (Operand.tmp 59)
          intro l hl vs W dn e1 e2 e3 hS hR hp
          have f7 : dn 7 = true := e2 7 (by kernel_rfl)
          have f10 : dn 10 = false := e1
          replace hS : (PushS DT DE b room w4.heap.size w.heap.size VV LX (z1, z2, z3, z4) (dn 7) (dn 10)) W := hS
          rw [f7, f10] at hS
          have g7 : (dn 7 || ((10 : Nat) == 7)) = true := by rw [f7]; rfl
          have g10 : (dn 10 || ((10 : Nat) == 10)) = true := by rw [f10]; rfl
          refine OpGoal.imp (S1 := PushS DT DE b room w4.heap.size w.heap.size VV LX (z1, z2, z3, z4) true true) (fun W' h => ?_) ?_
          · show (PushS DT DE b room w4.heap.size w.heap.size VV LX (z1, z2, z3, z4) (dn 7 || ((10 : Nat) == 7)) (dn 10 || ((10 : Nat) == 10))) W'
            rw [g7, g10]
            exact h
          clear g7 g10 e1 e2 e3
          obtain rfl : l = [(0, 52), (1, 53), (2, 54), (3, 55), (4, 56), (5, 57), (6, 58), (7, 59), (8, 60), (9, 61)] := hl.symm.trans (by kernel_rfl)
          have p7 : (fun v W => W.ownsRow (b + 1) DE 4 v (LX.length + 1) (LX.flatMap encE ++ encE (z1, z2, z3, z4)) ∧ (v.ownBlock = VV.ownBlock ∨ ∀ k, v.ownBlock = some k → w4.heap.size ≤ k)) (vs 7) W := hp 7 (by decide) (by decide)
          dsimp only at p7
          have p9 : vs 9 = _ := hp 9 (by decide) (by decide)
          clear hp hl
          obtain ⟨o7, r7⟩ := p7
          refine opgoal (_) (none) rfl rfl fun K hK => ?_
          obtain ⟨A', c', q7⟩ := own_form4 o7
          rw [q7] at o7 r7
          have hc1 : W.cell? ⟨b, 1, none⟩ = some VV := (hS.blk rfl).2
          have hf1 : W.frozen? ⟨b, 1, none⟩ = false := frozen_of_row W _ _ _ _ (hS.blk rfl).1
          refine Runs.mk ?_
          simp only [putAll]
          go_simp
          exact hK undef _ trivial (hS.fin o7 r7) ⟨(fun h => absurd h (by decide)), (fun _ => (Keep.refl _ _).setCell (p := ⟨b, 1, none⟩) (.inl (by simp)) _), fun h7 h10 => absurd rfl h10⟩ _ rfl rfl
      · intro l hl vs W dn hd hS hR hp
        replace hS : (PushS DT DE b room w4.heap.size w.heap.size VV LX (z1, z2, z3, z4) (dn 7) (dn 10)) W := hS
        rw [hd 7 (by decide), hd 10 (by decide)] at hS
        obtain rfl : l = [(0, 52), (1, 53), (2, 54), (3, 55), (4, 56), (5, 57), (6, 58), (7, 59), (8, 60), (9, 61)] := hl.symm.trans (by kernel_rfl)
        have p0 : vs 0 = _ := hp 0 (by decide) (by decide)
        have p1 : vs 1 = _ := hp 1 (by decide) (by decide)
        have p2 : vs 2 = _ := hp 2 (by decide) (by decide)
        have p3 : vs 3 = _ := hp 3 (by decide) (by decide)
        have p4 : vs 4 = _ := hp 4 (by decide) (by decide)
        have p5 : vs 5 = _ := hp 5 (by decide) (by decide)
        have p8 : vs 8 = _ := hp 8 (by decide) (by decide)
        have p9 : vs 9 = _ := hp 9 (by decide) (by decide)
        have p10 : (fun v W => True) (vs 10) W := hp 10 (by decide) (by decide)
        dsimp only at p10
        clear hp hl
        simp only [putAll_mk, setAll, List.setIfInBounds_toArray, List.set_cons_succ, List.set_cons_zero, p0, p1, p2, p3, p4, p5, p8, p9]
        have HS := Lib.hid hS
        have HR := Lib.hid hR
        clear hS hR p10
        go_wp2
        go_ret
        exact ⟨rfl, HFIN.out _ HS.out HR.out⟩
  | none =>
    rw [show fnd z1 L = -1 by simp [fnd, hl]] at HAT
    rw [show ddropL z1 L = (L, false) by simp [ddropL, hl]] at HDR
    have HDR2 := Lib.hid (fun wx vx x (hx : Ca DT DE wx b room vx L) => ddrop_any b room vx L x wx hx (by omega))
    have hpl : putL room (z1, z2, z3, z4) L = if room ≤ L.length then (L.eraseIdx 0 ++ [(z1, z2, z3, z4)], true) else (L ++ [(z1, z2, z3, z4)], true) := by simp only [putL, hl]
    rw [hpl]
    have hL0 : Hid (0 < n → ∃ x0 L0, L = x0 :: L0) := Lib.hid fun h0 => by
      cases L with
      | nil => simp at hn; omega
      | cons x0 L0 => exact ⟨x0, L0, rfl⟩
    by_cases hfull : room ≤ n
    · rw [if_pos (by omega)]
      obtain ⟨x0, L0, hx0⟩ := hL0.out (by omega)
      obtain ⟨LX, hLX⟩ : ∃ LX, L.eraseIdx 0 = LX := ⟨_, rfl⟩
      have hsm : Hid (LX.length ≤ 100000) := Lib.hid (by rw [← hLX, List.length_eraseIdx]; split <;> omega)
      have hdd : Hid (ddropL x0.1 L = (LX, true)) := Lib.hid (by rw [← hLX, hx0]; simp [ddropL, look_zero])
      have RD : Hid (∀ wx vx, Ca DT DE wx b room vx L → ∃ A cp ab ao, A = some ⟨ab, ao, none⟩ ∧ wx.cell? ⟨b, 1, none⟩ = some (.slice A n cp) ∧ wx.cell? ⟨b, 0, none⟩ = some (.int .i64 room) ∧ wx.cell? ⟨ab, ao, none⟩ = some (.int .i64 x0.1)) := Lib.hid fun wx vx hx => by
        obtain ⟨A, cp, hvv, hr, hA, -⟩ := hx.rd
        obtain ⟨r0, r1, -, -⟩ := hx.cell
        rw [hvv, hn] at r1
        obtain ⟨ab, ao, hAe, c0, -, -, -⟩ := ent_at hr 0 (by omega) (by omega) x0 (by simp [hx0])
        exact ⟨A, cp, ab, ao, hAe, r1, r0, by simpa using c0⟩
      have hne : ((n : Int) == (room : Int)) = true := by rw [beq_iff_eq]; omega
      have hned : decide ((n : Int) = (room : Int)) = true := by simp; omega
      have hn0 : 0 < n := by omega
      rw [hLX]
      clear h hce hb0 hW0 hrm H0 hl hr hA hn hlr hLX hpl hx0
      go_enter Try.func56, Try.ntmps56
      go_wp2_with fail
      rw [← HW0.out]
      refine HAT.out.mono ?_
      rintro en w1 ⟨rfl, rfl⟩
      go_wp2_with fail
      go_quiet (fail)
      clear q0 q1 q2 q3 r0 r1
      obtain ⟨W2, hW2⟩ : ∃ W2, W0.drewN nq = W2 := ⟨_, rfl⟩
      have hb2 : Below W0.heap.size W0 W2 := by rw [← hW2]; exact below_drewN _ _
      rw [hW2]
      obtain ⟨q0, q1, q2, q3⟩ := KC.out W2 (.of_below hb2)
      have HD := Lib.hid (HDR.out W2 (HH0.out.below hb2))
      have HB2 := Lib.hid hb2
      clear hb2 hW2
      go_wp2_with fail
      refine HD.out.mono ?_
      rintro en w3 ⟨rfl, v3, hC3, hch3⟩
      clear q0 q1 q2 q3
      obtain ⟨A3, cp3, ab3, ao3, hA3, r1, r0, -⟩ := RD.out w3 v3 hC3
      go_wp2_with fail
      go_quiet (fail)
      obtain ⟨w5, hw5⟩ : ∃ w5, w3.drewN nq = w5 := ⟨_, rfl⟩
      have hb5 : Below w3.heap.size w3 w5 := by rw [← hw5]; exact below_drewN _ _
      rw [hw5]
      have hC5 := hC3.below hb5
      have hch5 : Chg b v W0 v3 w5 := ((Chg.of_below HB2.out).trans hch3).below hb5
      clear r0 r1
      obtain ⟨A5, cp5, ab5, ao5, hA5, r1, r0, r2⟩ := RD.out w5 v3 hC5
      subst hA5
      have HD2 := HDR2.out w5 v3 x0.1 hC5
      rw [hdd.out] at HD2
      have HD5 := Lib.hid HD2
      have HCH5 := Lib.hid hch5
      clear hC3 hch3 hb5 hw5 hC5 hch5 HD2 hA3
      go_wp2_with fail
      refine HD5.out.mono ?_
      rintro en w4 ⟨rfl, VV, hC4, hch4⟩
      clear r0 r1 r2
      have hch0 : Chg b v W0 VV w4 := HCH5.out.trans hch4
      have KW := Lib.hid hch0.keep
      have hch : Chg b v w VV w4 := (Chg.of_below HB0.out).trans hch0
      obtain ⟨k0', k1', k2', k3'⟩ := KC.out w4 KW.out
      have hb4 : b < w4.heap.size := hC4.lt
      have hgx : VV.ownBlock ≠ some w.heap.size := GX.out VV w4 hch0
      have HS0 := Lib.hid (PushS.start w4.heap.size (z1, z2, z3, z4) hC4 (x := w.heap.size) (by omega) hgx (Nat.le_refl _) hb4 k0' k1' k2' k3')
      have HFIN : Hid (∀ W, PushS DT DE b room w4.heap.size w.heap.size VV LX (z1, z2, z3, z4) true true W → Keep (b :: VV.ownBlock.toList) w4.drew W → GoesD b room v (LX ++ [(z1, z2, z3, z4)]) w W) := Lib.hid fun W hs hk => push_fin hch hs hk
      obtain ⟨VA, vc, hVVe⟩ := own_form4 hC4.own
      have hVV : Hid (VV = .slice VA LX.length vc) := Lib.hid (own_len hC4.own hVVe)
      have hS0 := HS0.out
      clear k0' k1' k2' k3' hgx hVVe
      clear hC4 hch4 hch0 hch hne hned
      go_wp2_with fail
      refine wp_region_done (fun d => PushS DT DE b room w4.heap.size w.heap.size VV LX (z1, z2, z3, z4) (d 7) (d 10)) (fun u v => Keep (b :: VV.ownBlock.toList) u v) (fun k u v => (k = 7 → (fun u v => Keep VV.ownBlock.toList u v) u v) ∧ (k = 10 → (fun u v => Keep [b] u v) u v) ∧ (¬ k = 7 → ¬ k = 10 → (fun u v => Below u.heap.size u v) u v)) (fun a i => match i with
          | 0 => (fun v _ => v = .pointer (some ⟨b, 0, none⟩))
          | 1 => (fun v _ => v = .pointer (some ⟨b, 0, none⟩))
          | 2 => (fun v _ => v = .pointer (some ⟨b, 0, none⟩))
          | 3 => (fun v _ => v = .pointer (some ⟨b, 1, none⟩))
          | 4 => (fun v _ => v = .slice VA LX.length vc)
          | 5 => (fun v _ => v = .agg #[.int .i64 z1, .int .i64 z2, .int .i64 z3, .int .i64 z4])
          | 6 => (fun v W => ∃ j, v = .slice (some ⟨j, 0, none⟩) 1 1 ∧ j < W.heap.size ∧ W.heap[j]? = some (.cells #[.int .i64 z1, .int .i64 z2, .int .i64 z3, .int .i64 z4] DE (0, 0)))
          | 7 => (fun v W => W.ownsRow (b + 1) DE 4 v (LX.length + 1) (LX.flatMap encE ++ encE (z1, z2, z3, z4)) ∧ (v.ownBlock = VV.ownBlock ∨ ∀ k, v.ownBlock = some k → w4.heap.size ≤ k))
          | 8 => (fun v _ => v = .pointer (some ⟨b, 0, none⟩))
          | 9 => (fun v _ => v = .pointer (some ⟨b, 1, none⟩))
          | 10 => (fun v W => True)
          | _ => (fun _ _ => True)) #[0, 0, 2, 6, 14, 0, 32, 126, 255, 511, 1023] #[0, 0, 2, 4, 8, 0, 32, 80, 1, 256, 640] 1855 (by kernel_rfl) 11 rfl (fun m hm => by subst hm; kernel_rfl) (by kernel_rfl) (fun w => Keep.refl _ w) (fun u v w h1 h2 => h1.trans h2) ?_ ?_ (hS0) ?_ ?_
      · intro k u v hk hr
        by_cases hs7 : k = 7
        · have h := hr.1 hs7; exact h.mono (by intro x hx; exact List.mem_cons_of_mem _ hx)
        by_cases hs10 : k = 10
        · have h := hr.2.1 hs10; exact h.mono (by simp)
        have h := hr.2.2 hs7 hs10; exact Keep.of_below h
      · intro i hi
        rcases (by omega : i = 0 ∨ i = 1 ∨ i = 2 ∨ i = 3 ∨ i = 4 ∨ i = 5 ∨ i = 6 ∨ i = 7 ∨ i = 8 ∨ i = 9 ∨ i = 10) with rfl | rfl | rfl | rfl | rfl | rfl | rfl | rfl | rfl | rfl | rfl
        · intro k hk y hy hyt v w w' h hr
          exact h
        · intro k hk y hy hyt v w w' h hr
          exact h
        · intro k hk y hy hyt v w w' h hr
          exact h
        · intro k hk y hy hyt v w w' h hr
          exact h
        · intro k hk y hy hyt v w w' h hr
          exact h
        · intro k hk y hy hyt v w w' h hr
          exact h
        · intro k hk y hy hyt v w w' h hr
          by_cases hs7 : k = 7
          · have hr0 := hr.1 hs7
            subst hs7
            exact absurd (hy.trans hyt) (ne_true_of_eq_false (by kernel_rfl))
          by_cases hs10 : k = 10
          · have hr0 := hr.2.1 hs10
            subst hs10
            exact absurd (hy.trans hyt) (ne_true_of_eq_false (by kernel_rfl))
          have hr := hr.2.2 hs7 hs10
          obtain ⟨j, h1, h2, h3⟩ := h; exact ⟨j, h1, Nat.lt_of_lt_of_le h2 hr.size, (hr.block j h2).trans h3⟩
        · intro k hk y hy hyt v w w' h hr
          by_cases hs7 : k = 7
          · have hr0 := hr.1 hs7
            subst hs7
            exact absurd (hy.trans hyt) (ne_true_of_eq_false (by kernel_rfl))
          by_cases hs10 : k = 10
          · have hr0 := hr.2.1 hs10
            subst hs10
            exact absurd (hy.trans hyt) (ne_true_of_eq_false (by kernel_rfl))
          have hr := hr.2.2 hs7 hs10
          exact ⟨own_kept h.1 hr, h.2⟩
        · intro k hk y hy hyt v w w' h hr
          exact h
        · intro k hk y hy hyt v w w' h hr
          exact h
        · intro k hk y hy hyt v w w' h hr
          by_cases hs7 : k = 7
          · have hr0 := hr.1 hs7
            subst hs7
            exact absurd (hy.trans hyt) (ne_true_of_eq_false (by kernel_rfl))
          by_cases hs10 : k = 10
          · have hr0 := hr.2.1 hs10
            subst hs10
            exact absurd (hy.trans hyt) (ne_true_of_eq_false (by kernel_rfl))
          have hr := hr.2.2 hs7 hs10
          exact trivial
      · intro i hi
        rcases (by omega : i = 0 ∨ i = 1 ∨ i = 2 ∨ i = 3 ∨ i = 4 ∨ i = 5 ∨ i = 6 ∨ i = 7 ∨ i = 8 ∨ i = 9 ∨ i = 10) with rfl | rfl | rfl | rfl | rfl | rfl | rfl | rfl | rfl | rfl | rfl
        · -- 0: Op.move (Operand.tmp 0)
          intro l hl vs W dn e1 e2 e3 hS hR hp
          have f7 : dn 7 = dn 7 := rfl
          have f10 : dn 10 = false := e3 10 (by kernel_rfl)
          replace hS : (PushS DT DE b room w4.heap.size w.heap.size VV LX (z1, z2, z3, z4) (dn 7) (dn 10)) W := hS
          rw [f10] at hS
          have g7 : (dn 7 || ((0 : Nat) == 7)) = dn 7 := Bool.or_false _
          have g10 : (dn 10 || ((0 : Nat) == 10)) = false := by rw [f10]; rfl
          refine OpGoal.imp (S1 := PushS DT DE b room w4.heap.size w.heap.size VV LX (z1, z2, z3, z4) (dn 7) false) (fun W' h => ?_) ?_
          · show (PushS DT DE b room w4.heap.size w.heap.size VV LX (z1, z2, z3, z4) (dn 7 || ((0 : Nat) == 7)) (dn 10 || ((0 : Nat) == 10))) W'
            rw [g7, g10]
            exact h
          clear g7 g10 e1 e2 e3
          obtain rfl : l = [] := hl.symm.trans (by kernel_rfl)
          clear hp hl
          refine opgoal (_) (some 52) rfl rfl fun K hK => ?_
          refine Runs.mk ?_
          simp only [putAll]
          go_simp
          refine hK _ _ ?_ hS ⟨fun h => absurd h (by decide), fun h => absurd h (by decide), fun h7 h10 => ((fun w => Below.refl _ w) W)⟩ _ rfl rfl
          first | rfl | go_simp | simp
        · -- 1: Op.move (Operand.tmp 0)
          intro l hl vs W dn e1 e2 e3 hS hR hp
          have f7 : dn 7 = false := e3 7 (by kernel_rfl)
          have f10 : dn 10 = false := e3 10 (by kernel_rfl)
          replace hS : (PushS DT DE b room w4.heap.size w.heap.size VV LX (z1, z2, z3, z4) (dn 7) (dn 10)) W := hS
          rw [f7, f10] at hS
          have g7 : (dn 7 || ((1 : Nat) == 7)) = false := by rw [f7]; rfl
          have g10 : (dn 10 || ((1 : Nat) == 10)) = false := by rw [f10]; rfl
          refine OpGoal.imp (S1 := PushS DT DE b room w4.heap.size w.heap.size VV LX (z1, z2, z3, z4) false false) (fun W' h => ?_) ?_
          · show (PushS DT DE b room w4.heap.size w.heap.size VV LX (z1, z2, z3, z4) (dn 7 || ((1 : Nat) == 7)) (dn 10 || ((1 : Nat) == 10))) W'
            rw [g7, g10]
            exact h
          clear g7 g10 e1 e2 e3
          obtain rfl : l = [] := hl.symm.trans (by kernel_rfl)
          clear hp hl
          refine opgoal (_) (some 53) rfl rfl fun K hK => ?_
          refine Runs.mk ?_
          simp only [putAll]
          go_simp
          refine hK _ _ ?_ hS ⟨fun h => absurd h (by decide), fun h => absurd h (by decide), fun h7 h10 => ((fun w => Below.refl _ w) W)⟩ _ rfl rfl
          first | rfl | go_simp | simp
        · -- 2: Op.nilCheck (Operand.tmp 53)
          intro l hl vs W dn e1 e2 e3 hS hR hp
          have f7 : dn 7 = false := e3 7 (by kernel_rfl)
          have f10 : dn 10 = false := e3 10 (by kernel_rfl)
          replace hS : (PushS DT DE b room w4.heap.size w.heap.size VV LX (z1, z2, z3, z4) (dn 7) (dn 10)) W := hS
          rw [f7, f10] at hS
          have g7 : (dn 7 || ((2 : Nat) == 7)) = false := by rw [f7]; rfl
          have g10 : (dn 10 || ((2 : Nat) == 10)) = false := by rw [f10]; rfl
          refine OpGoal.imp (S1 := PushS DT DE b room w4.heap.size w.heap.size VV LX (z1, z2, z3, z4) false false) (fun W' h => ?_) ?_
          · show (PushS DT DE b room w4.heap.size w.heap.size VV LX (z1, z2, z3, z4) (dn 7 || ((2 : Nat) == 7)) (dn 10 || ((2 : Nat) == 10))) W'
            rw [g7, g10]
            exact h
          clear g7 g10 e1 e2 e3
          obtain rfl : l = [(1, 53)] := hl.symm.trans (by kernel_rfl)
          have p1 : vs 1 = _ := hp 1 (by decide) (by decide)
          clear hp hl
          refine opgoal (_) (some 54) rfl rfl fun K hK => ?_
          refine Runs.mk ?_
          simp only [putAll]
          go_simp
          refine hK _ _ ?_ hS ⟨fun h => absurd h (by decide), fun h => absurd h (by decide), fun h7 h10 => ((fun w => Below.refl _ w) W)⟩ _ rfl rfl
          first | rfl | go_simp | simp
        · -- 3: Op.fieldAddr 92 (Operand.tmp 54) 1
          intro l hl vs W dn e1 e2 e3 hS hR hp
          have f7 : dn 7 = false := e3 7 (by kernel_rfl)
          have f10 : dn 10 = false := e3 10 (by kernel_rfl)
          replace hS : (PushS DT DE b room w4.heap.size w.heap.size VV LX (z1, z2, z3, z4) (dn 7) (dn 10)) W := hS
          rw [f7, f10] at hS
          have g7 : (dn 7 || ((3 : Nat) == 7)) = false := by rw [f7]; rfl
          have g10 : (dn 10 || ((3 : Nat) == 10)) = false := by rw [f10]; rfl
          refine OpGoal.imp (S1 := PushS DT DE b room w4.heap.size w.heap.size VV LX (z1, z2, z3, z4) false false) (fun W' h => ?_) ?_
          · show (PushS DT DE b room w4.heap.size w.heap.size VV LX (z1, z2, z3, z4) (dn 7 || ((3 : Nat) == 7)) (dn 10 || ((3 : Nat) == 10))) W'
            rw [g7, g10]
            exact h
          clear g7 g10 e1 e2 e3
          obtain rfl : l = [(1, 53), (2, 54)] := hl.symm.trans (by kernel_rfl)
          have p2 : vs 2 = _ := hp 2 (by decide) (by decide)
          clear hp hl
          refine opgoal (_) (some 55) rfl rfl fun K hK => ?_
          refine Runs.mk ?_
          simp only [putAll]
          go_simp
          refine hK _ _ ?_ hS ⟨fun h => absurd h (by decide), fun h => absurd h (by decide), fun h7 h10 => ((fun w => Below.refl _ w) W)⟩ _ rfl rfl
          first | rfl | go_simp | simp
        · -- 4: Op.load 90 (Operand.tmp 55)
          intro l hl vs W dn e1 e2 e3 hS hR hp
          have f7 : dn 7 = false := e3 7 (by kernel_rfl)
          have f10 : dn 10 = false := e3 10 (by kernel_rfl)
          replace hS : (PushS DT DE b room w4.heap.size w.heap.size VV LX (z1, z2, z3, z4) (dn 7) (dn 10)) W := hS
          rw [f7, f10] at hS
          have g7 : (dn 7 || ((4 : Nat) == 7)) = false := by rw [f7]; rfl
          have g10 : (dn 10 || ((4 : Nat) == 10)) = false := by rw [f10]; rfl
          refine OpGoal.imp (S1 := PushS DT DE b room w4.heap.size w.heap.size VV LX (z1, z2, z3, z4) false false) (fun W' h => ?_) ?_
          · show (PushS DT DE b room w4.heap.size w.heap.size VV LX (z1, z2, z3, z4) (dn 7 || ((4 : Nat) == 7)) (dn 10 || ((4 : Nat) == 10))) W'
            rw [g7, g10]
            exact h
          clear g7 g10 e1 e2 e3
          obtain rfl : l = [(1, 53), (2, 54), (3, 55)] := hl.symm.trans (by kernel_rfl)
          have p3 : vs 3 = _ := hp 3 (by decide) (by decide)
          clear hp hl
          refine opgoal (_) (some 56) rfl rfl fun K hK => ?_
          have hc1 : W.cell? ⟨b, 1, none⟩ = some VV := (hS.blk rfl).2
          rw [hVV.out] at hc1
          refine Runs.mk ?_
          simp only [putAll]
          go_simp
          refine hK _ _ ?_ hS ⟨fun h => absurd h (by decide), fun h => absurd h (by decide), fun h7 h10 => ((fun w => Below.refl _ w) W)⟩ _ rfl rfl
          first | rfl | go_simp | simp
        · -- 5: Op.load 94 (Operand.tmp 3)
          intro l hl vs W dn e1 e2 e3 hS hR hp
          have f7 : dn 7 = false := e3 7 (by kernel_rfl)
          have f10 : dn 10 = false := e3 10 (by kernel_rfl)
          replace hS : (PushS DT DE b room w4.heap.size w.heap.size VV LX (z1, z2, z3, z4) (dn 7) (dn 10)) W := hS
          rw [f7, f10] at hS
          have g7 : (dn 7 || ((5 : Nat) == 7)) = false := by rw [f7]; rfl
          have g10 : (dn 10 || ((5 : Nat) == 10)) = false := by rw [f10]; rfl
          refine OpGoal.imp (S1 := PushS DT DE b room w4.heap.size w.heap.size VV LX (z1, z2, z3, z4) false false) (fun W' h => ?_) ?_
          · show (PushS DT DE b room w4.heap.size w.heap.size VV LX (z1, z2, z3, z4) (dn 7 || ((5 : Nat) == 7)) (dn 10 || ((5 : Nat) == 10))) W'
            rw [g7, g10]
            exact h
          clear g7 g10 e1 e2 e3
          obtain rfl : l = [] := hl.symm.trans (by kernel_rfl)
          clear hp hl
          refine opgoal (_) (some 57) rfl rfl fun K hK => ?_
          obtain ⟨c0, c1, c2, c3⟩ := hS.ent
          dsimp only at c0 c1 c2 c3
          refine Runs.mk ?_
          simp only [putAll]
          go_simp
          refine hK _ _ ?_ hS ⟨fun h => absurd h (by decide), fun h => absurd h (by decide), fun h7 h10 => ((fun w => Below.refl _ w) W)⟩ _ rfl rfl
          first | rfl | go_simp | simp
        · -- 6: Op.buildSlice 90 1 #[(0, Operand.tmp 57)]
          intro l hl vs W dn e1 e2 e3 hS hR hp
          have f7 : dn 7 = false := e3 7 (by kernel_rfl)
          have f10 : dn 10 = false := e3 10 (by kernel_rfl)
          replace hS : (PushS DT DE b room w4.heap.size w.heap.size VV LX (z1, z2, z3, z4) (dn 7) (dn 10)) W := hS
          rw [f7, f10] at hS
          have g7 : (dn 7 || ((6 : Nat) == 7)) = false := by rw [f7]; rfl
          have g10 : (dn 10 || ((6 : Nat) == 10)) = false := by rw [f10]; rfl
          refine OpGoal.imp (S1 := PushS DT DE b room w4.heap.size w.heap.size VV LX (z1, z2, z3, z4) false false) (fun W' h => ?_) ?_
          · show (PushS DT DE b room w4.heap.size w.heap.size VV LX (z1, z2, z3, z4) (dn 7 || ((6 : Nat) == 7)) (dn 10 || ((6 : Nat) == 10))) W'
            rw [g7, g10]
            exact h
          clear g7 g10 e1 e2 e3
          obtain rfl : l = [(5, 57)] := hl.symm.trans (by kernel_rfl)
          have p5 : vs 5 = _ := hp 5 (by decide) (by decide)
          clear hp hl
          refine opgoal (_) (some 58) rfl rfl fun K hK => ?_
          refine Runs.mk ?_
          simp only [putAll]
          go_simp
          have hb := below_alloc W (.cells #[.int .i64 z1, .int .i64 z2, .int .i64 z3, .int .i64 z4] DE)
          exact hK _ _ ⟨W.heap.size, rfl, by simp, heap_alloc_new _ _⟩ (hS.below hb) ⟨(fun h => absurd h (by decide)), (fun h => absurd h (by decide)), fun h7 h10 => hb⟩ _ rfl rfl
        · -- 7: Op.call { callee := Callee.builtin Builtin.append, args := #[Operand.tmp 56, Operand.tmp 58], argTypes := #[90, 90] }
          intro l hl vs W dn e1 e2 e3 hS hR hp
          have f7 : dn 7 = false := e1
          have f10 : dn 10 = false := e3 10 (by kernel_rfl)
          replace hS : (PushS DT DE b room w4.heap.size w.heap.size VV LX (z1, z2, z3, z4) (dn 7) (dn 10)) W := hS
          rw [f7, f10] at hS
          have g7 : (dn 7 || ((7 : Nat) == 7)) = true := by rw [f7]; rfl
          have g10 : (dn 10 || ((7 : Nat) == 10)) = false := by rw [f10]; rfl
          refine OpGoal.imp (S1 := PushS DT DE b room w4.heap.size w.heap.size VV LX (z1, z2, z3, z4) true false) (fun W' h => ?_) ?_
          · show (PushS DT DE b room w4.heap.size w.heap.size VV LX (z1, z2, z3, z4) (dn 7 || ((7 : Nat) == 7)) (dn 10 || ((7 : Nat) == 10))) W'
            rw [g7, g10]
            exact h
          clear g7 g10 e1 e2 e3
          obtain rfl : l = [(1, 53), (2, 54), (3, 55), (4, 56), (5, 57), (6, 58)] := hl.symm.trans (by kernel_rfl)
          have p4 : vs 4 = _ := hp 4 (by decide) (by decide)
          have p6 : (fun v W => ∃ j, v = .slice (some ⟨j, 0, none⟩) 1 1 ∧ j < W.heap.size ∧ W.heap[j]? = some (.cells #[.int .i64 z1, .int .i64 z2, .int .i64 z3, .int .i64 z4] DE (0, 0))) (vs 6) W := hp 6 (by decide) (by decide)
          dsimp only at p6
          clear hp hl
          obtain ⟨j, q6, l6, b6⟩ := p6
          refine opgoal ({ dst := some 59, op := Op.call { callee := Callee.builtin Builtin.append, args := #[Operand.tmp 56, Operand.tmp 58], argTypes := #[90, 90] }, type := 90, pos := "ref.go:43", after := #[{ on := 4, ground := Ground.data }, { on := 6, ground := Ground.data }], guard := none }) (some 59) rfl rfl fun K hK => ?_
          refine runs_append_src W (wanted_none rfl) (.tmp 56) (.tmp 58) (b + 1) 90 DE (.agg #[.int .i64 0, .int .i64 0, .int .i64 0, .int .i64 0]) 4 32 rfl (by kernel_rfl) (by kernel_rfl) rfl (by decide) (by decide) VV LX.length (LX.flatMap encE) (by simp [putAll, Act.put, Act.eval, p4, hVV.out]) (hS.own rfl) (some ⟨j, 0, none⟩) 1 1 (by simp [putAll, Act.put, Act.eval, q6]) (fun h => by cases h) [.int .i64 z1, .int .i64 z2, .int .i64 z3, .int .i64 z4] rfl (lies_block b6) (by simp [Value.oneCell']) (by have := hsm.out; omega) (by have := hS.szw; have := hS.sb; omega) ?_
          intro v' w' h1 h2 h3
          have hkk : Keep VV.ownBlock.toList W w' := keep_grown h2 _ (fun j hj _ => by simp [hj])
          exact hK _ _ ⟨h1, h3.elim (fun h => .inl h) (fun h => .inr fun k hk => (by rw [h] at hk; cases hk; exact hS.szw))⟩ (hS.app hkk) ⟨(fun _ => hkk), (fun h => absurd h (by decide)), fun h7 h10 => absurd rfl h7⟩ _ put_dfs (put_slot (by simp))
        · -- 8: Op.nilCheck (Operand.tmp 52)
          intro l hl vs W dn e1 e2 e3 hS hR hp
          have f7 : dn 7 = true := e2 7 (by kernel_rfl)
          have f10 : dn 10 = false := e3 10 (by kernel_rfl)
          replace hS : (PushS DT DE b room w4.heap.size w.heap.size VV LX (z1, z2, z3, z4) (dn 7) (dn 10)) W := hS
          rw [f7, f10] at hS
          have g7 : (dn 7 || ((8 : Nat) == 7)) = true := by rw [f7]; rfl
          have g10 : (dn 10 || ((8 : Nat) == 10)) = false := by rw [f10]; rfl
          refine OpGoal.imp (S1 := PushS DT DE b room w4.heap.size w.heap.size VV LX (z1, z2, z3, z4) true false) (fun W' h => ?_) ?_
          · show (PushS DT DE b room w4.heap.size w.heap.size VV LX (z1, z2, z3, z4) (dn 7 || ((8 : Nat) == 7)) (dn 10 || ((8 : Nat) == 10))) W'
            rw [g7, g10]
            exact h
          clear g7 g10 e1 e2 e3
          obtain rfl : l = [(0, 52), (1, 53), (2, 54), (3, 55), (4, 56), (5, 57), (6, 58), (7, 59)] := hl.symm.trans (by kernel_rfl)
          have p0 : vs 0 = _ := hp 0 (by decide) (by decide)
          clear hp hl
          refine opgoal (_) (some 60) rfl rfl fun K hK => ?_
          refine Runs.mk ?_
          simp only [putAll]
          go_simp
          refine hK _ _ ?_ hS ⟨fun h => absurd h (by decide), fun h => absurd h (by decide), fun h7 h10 => ((fun w => Below.refl _ w) W)⟩ _ rfl rfl
          first | rfl | go_simp | simp
        · -- 9: Op.fieldAddr 92 (Operand.tmp 60) 1
          intro l hl vs W dn e1 e2 e3 hS hR hp
          have f7 : dn 7 = true := e2 7 (by kernel_rfl)
          have f10 : dn 10 = false := e3 10 (by kernel_rfl)
          replace hS : (PushS DT DE b room w4.heap.size w.heap.size VV LX (z1, z2, z3, z4) (dn 7) (dn 10)) W := hS
          rw [f7, f10] at hS
          have g7 : (dn 7 || ((9 : Nat) == 7)) = true := by rw [f7]; rfl
          have g10 : (dn 10 || ((9 : Nat) == 10)) = false := by rw [f10]; rfl
          refine OpGoal.imp (S1 := PushS DT DE b room w4.heap.size w.heap.size VV LX (z1, z2, z3, z4) true false) (fun W' h => ?_) ?_
          · show (PushS DT DE b room w4.heap.size w.heap.size VV LX (z1, z2, z3, z4) (dn 7 || ((9 : Nat) == 7)) (dn 10 || ((9 : Nat) == 10))) W'
            rw [g7, g10]
            exact h
          clear g7 g10 e1 e2 e3
          obtain rfl : l = [(0, 52), (1, 53), (2, 54), (3, 55), (4, 56), (5, 57), (6, 58), (7, 59), (8, 60)] := hl.symm.trans (by kernel_rfl)
          have p8 : vs 8 = _ := hp 8 (by decide) (by decide)
          clear hp hl
          refine opgoal (_) (some 61) rfl rfl fun K hK => ?_
          refine Runs.mk ?_
          simp only [putAll]
          go_simp
          refine hK _ _ ?_ hS ⟨fun h => absurd h (by decide), fun h => absurd h (by decide), fun h7 h10 => ((fun w => Below.refl _ w) W)⟩ _ rfl rfl
          first | rfl | go_simp | simp
        · -- 10: Op.store 90 (Operand.tmp 61) (Operand.tmp 59)
          intro l hl vs W dn e1 e2 e3 hS hR hp
          have f7 : dn 7 = true := e2 7 (by kernel_rfl)
          have f10 : dn 10 = false := e1
          replace hS : (PushS DT DE b room w4.heap.size w.heap.size VV LX (z1, z2, z3, z4) (dn 7) (dn 10)) W := hS
          rw [f7, f10] at hS
          have g7 : (dn 7 || ((10 : Nat) == 7)) = true := by rw [f7]; rfl
          have g10 : (dn 10 || ((10 : Nat) == 10)) = true := by rw [f10]; rfl
          refine OpGoal.imp (S1 := PushS DT DE b room w4.heap.size w.heap.size VV LX (z1, z2, z3, z4) true true) (fun W' h => ?_) ?_
          · show (PushS DT DE b room w4.heap.size w.heap.size VV LX (z1, z2, z3, z4) (dn 7 || ((10 : Nat) == 7)) (dn 10 || ((10 : Nat) == 10))) W'
            rw [g7, g10]
            exact h
          clear g7 g10 e1 e2 e3
          obtain rfl : l = [(0, 52), (1, 53), (2, 54), (3, 55), (4, 56), (5, 57), (6, 58), (7, 59), (8, 60), (9, 61)] := hl.symm.trans (by kernel_rfl)
          have p7 : (fun v W => W.ownsRow (b + 1) DE 4 v (LX.length + 1) (LX.flatMap encE ++ encE (z1, z2, z3, z4)) ∧ (v.ownBlock = VV.ownBlock ∨ ∀ k, v.ownBlock = some k → w4.heap.size ≤ k)) (vs 7) W := hp 7 (by decide) (by decide)
          dsimp only at p7
          have p9 : vs 9 = _ := hp 9 (by decide) (by decide)
          clear hp hl
          obtain ⟨o7, r7⟩ := p7
          refine opgoal (_) (none) rfl rfl fun K hK => ?_
          obtain ⟨A', c', q7⟩ := own_form4 o7
          rw [q7] at o7 r7
          have hc1 : W.cell? ⟨b, 1, none⟩ = some VV := (hS.blk rfl).2
          have hf1 : W.frozen? ⟨b, 1, none⟩ = false := frozen_of_row W _ _ _ _ (hS.blk rfl).1
          refine Runs.mk ?_
          simp only [putAll]
          go_simp
          exact hK undef _ trivial (hS.fin o7 r7) ⟨(fun h => absurd h (by decide)), (fun _ => (Keep.refl _ _).setCell (p := ⟨b, 1, none⟩) (.inl (by simp)) _), fun h7 h10 => absurd rfl h10⟩ _ rfl rfl
      · intro l hl vs W dn hd hS hR hp
        replace hS : (PushS DT DE b room w4.heap.size w.heap.size VV LX (z1, z2, z3, z4) (dn 7) (dn 10)) W := hS
        rw [hd 7 (by decide), hd 10 (by decide)] at hS
        obtain rfl : l = [(0, 52), (1, 53), (2, 54), (3, 55), (4, 56), (5, 57), (6, 58), (7, 59), (8, 60), (9, 61)] := hl.symm.trans (by kernel_rfl)
        have p0 : vs 0 = _ := hp 0 (by decide) (by decide)
        have p1 : vs 1 = _ := hp 1 (by decide) (by decide)
        have p2 : vs 2 = _ := hp 2 (by decide) (by decide)
        have p3 : vs 3 = _ := hp 3 (by decide) (by decide)
        have p4 : vs 4 = _ := hp 4 (by decide) (by decide)
        have p5 : vs 5 = _ := hp 5 (by decide) (by decide)
        have p8 : vs 8 = _ := hp 8 (by decide) (by decide)
        have p9 : vs 9 = _ := hp 9 (by decide) (by decide)
        have p10 : (fun v W => True) (vs 10) W := hp 10 (by decide) (by decide)
        dsimp only at p10
        clear hp hl
        simp only [putAll_mk, setAll, List.setIfInBounds_toArray, List.set_cons_succ, List.set_cons_zero, p0, p1, p2, p3, p4, p5, p8, p9]
        have HS := Lib.hid hS
        have HR := Lib.hid hR
        clear hS hR p10
        go_wp2
        go_ret
        exact ⟨rfl, HFIN.out _ HS.out HR.out⟩
    · rw [if_neg (by omega)]
      obtain ⟨LX, hLX⟩ : ∃ LX, L = LX := ⟨_, rfl⟩
      have hsm : Hid (LX.length ≤ 100000) := Lib.hid (by rw [← hLX]; omega)
      have RD : Hid (∀ wx vx, Ca DT DE wx b room vx L → ∃ A cp, wx.cell? ⟨b, 1, none⟩ = some (.slice A n cp) ∧ wx.cell? ⟨b, 0, none⟩ = some (.int .i64 room)) := Lib.hid fun wx vx hx => by
        obtain ⟨A, cp, hvv, hr, hA, -⟩ := hx.rd
        obtain ⟨r0, r1, -, -⟩ := hx.cell
        rw [hvv, hn] at r1
        exact ⟨A, cp, r1, r0⟩
      have hne : ((n : Int) == (room : Int)) = false := by rw [beq_eq_false_iff_ne]; omega
      have hned : decide ((n : Int) = (room : Int)) = false := by simp; omega
      rw [hLX] at RD HDR HDR2 HH0 ⊢
      clear h hce hb0 hW0 hrm H0 hl hr hA hn hlr hLX hpl
      go_enter Try.func56, Try.ntmps56
      go_wp2_with fail
      rw [← HW0.out]
      refine HAT.out.mono ?_
      rintro en w1 ⟨rfl, rfl⟩
      go_wp2_with fail
      go_quiet (fail)
      clear q0 q1 q2 q3 r0 r1
      obtain ⟨W2, hW2⟩ : ∃ W2, W0.drewN nq = W2 := ⟨_, rfl⟩
      have hb2 : Below W0.heap.size W0 W2 := by rw [← hW2]; exact below_drewN _ _
      rw [hW2]
      obtain ⟨q0, q1, q2, q3⟩ := KC.out W2 (.of_below hb2)
      have HD := Lib.hid (HDR.out W2 (HH0.out.below hb2))
      have HB2 := Lib.hid hb2
      clear hb2 hW2
      go_wp2_with fail
      refine HD.out.mono ?_
      rintro en w3 ⟨rfl, VV, hC3, hch3⟩
      clear q0 q1 q2 q3
      obtain ⟨A3, cp3, r1, r0⟩ := RD.out w3 VV hC3
      go_wp2_with fail
      go_quiet (fail)
      obtain ⟨w4, hw4⟩ : ∃ w4, w3.drewN nq = w4 := ⟨_, rfl⟩
      have hb4' : Below w3.heap.size w3 w4 := by rw [← hw4]; exact below_drewN _ _
      rw [hw4]
      have hC4 := hC3.below hb4'
      have hch0 : Chg b v W0 VV w4 := ((Chg.of_below HB2.out).trans hch3).below hb4'
      have KW := Lib.hid hch0.keep
      have hch : Chg b v w VV w4 := (Chg.of_below HB0.out).trans hch0
      obtain ⟨k0', k1', k2', k3'⟩ := KC.out w4 KW.out
      have hb4 : b < w4.heap.size := hC4.lt
      have hgx : VV.ownBlock ≠ some w.heap.size := GX.out VV w4 hch0
      have HS0 := Lib.hid (PushS.start w4.heap.size (z1, z2, z3, z4) hC4 (x := w.heap.size) (by omega) hgx (Nat.le_refl _) hb4 k0' k1' k2' k3')
      have HFIN : Hid (∀ W, PushS DT DE b room w4.heap.size w.heap.size VV LX (z1, z2, z3, z4) true true W → Keep (b :: VV.ownBlock.toList) w4.drew W → GoesD b room v (LX ++ [(z1, z2, z3, z4)]) w W) := Lib.hid fun W hs hk => push_fin hch hs hk
      obtain ⟨VA, vc, hVVe⟩ := own_form4 hC4.own
      have hVV : Hid (VV = .slice VA LX.length vc) := Lib.hid (own_len hC4.own hVVe)
      have hS0 := HS0.out
      clear k0' k1' k2' k3' hgx hVVe
      clear hC3 hch3 hb4' hw4 hC4 hch0 hch hne hned r0 r1
      go_wp2_with fail
      refine wp_region_done (fun d => PushS DT DE b room w4.heap.size w.heap.size VV LX (z1, z2, z3, z4) (d 7) (d 10)) (fun u v => Keep (b :: VV.ownBlock.toList) u v) (fun k u v => (k = 7 → (fun u v => Keep VV.ownBlock.toList u v) u v) ∧ (k = 10 → (fun u v => Keep [b] u v) u v) ∧ (¬ k = 7 → ¬ k = 10 → (fun u v => Below u.heap.size u v) u v)) (fun a i => match i with
          | 0 => (fun v _ => v = .pointer (some ⟨b, 0, none⟩))
          | 1 => (fun v _ => v = .pointer (some ⟨b, 0, none⟩))
          | 2 => (fun v _ => v = .pointer (some ⟨b, 0, none⟩))
          | 3 => (fun v _ => v = .pointer (some ⟨b, 1, none⟩))
          | 4 => (fun v _ => v = .slice VA LX.length vc)
          | 5 => (fun v _ => v = .agg #[.int .i64 z1, .int .i64 z2, .int .i64 z3, .int .i64 z4])
          | 6 => (fun v W => ∃ j, v = .slice (some ⟨j, 0, none⟩) 1 1 ∧ j < W.heap.size ∧ W.heap[j]? = some (.cells #[.int .i64 z1, .int .i64 z2, .int .i64 z3, .int .i64 z4] DE (0, 0)))
          | 7 => (fun v W => W.ownsRow (b + 1) DE 4 v (LX.length + 1) (LX.flatMap encE ++ encE (z1, z2, z3, z4)) ∧ (v.ownBlock = VV.ownBlock ∨ ∀ k, v.ownBlock = some k → w4.heap.size ≤ k))
          | 8 => (fun v _ => v = .pointer (some ⟨b, 0, none⟩))
          | 9 => (fun v _ => v = .pointer (some ⟨b, 1, none⟩))
          | 10 => (fun v W => True)
          | _ => (fun _ _ => True)) #[0, 0, 2, 6, 14, 0, 32, 126, 255, 511, 1023] #[0, 0, 2, 4, 8, 0, 32, 80, 1, 256, 640] 1855 (by kernel_rfl) 11 rfl (fun m hm => by subst hm; kernel_rfl) (by kernel_rfl) (fun w => Keep.refl _ w) (fun u v w h1 h2 => h1.trans h2) ?_ ?_ (hS0) ?_ ?_
      · intro k u v hk hr
        by_cases hs7 : k = 7
        · have h := hr.1 hs7; exact h.mono (by intro x hx; exact List.mem_cons_of_mem _ hx)
        by_cases hs10 : k = 10
        · have h := hr.2.1 hs10; exact h.mono (by simp)
        have h := hr.2.2 hs7 hs10; exact Keep.of_below h
      · intro i hi
        rcases (by omega : i = 0 ∨ i = 1 ∨ i = 2 ∨ i = 3 ∨ i = 4 ∨ i = 5 ∨ i = 6 ∨ i = 7 ∨ i = 8 ∨ i = 9 ∨ i = 10) with rfl | rfl | rfl | rfl | rfl | rfl | rfl | rfl | rfl | rfl | rfl
        · intro k hk y hy hyt v w w' h hr
          exact h
        · intro k hk y hy hyt v w w' h hr
          exact h
        · intro k hk y hy hyt v w w' h hr
          exact h
        · intro k hk y hy hyt v w w' h hr
          exact h
        · intro k hk y hy hyt v w w' h hr
          exact h
        · intro k hk y hy hyt v w w' h hr
          exact h
        · intro k hk y hy hyt v w w' h hr
          by_cases hs7 : k = 7
          · have hr0 := hr.1 hs7
            subst hs7
            exact absurd (hy.trans hyt) (ne_true_of_eq_false (by kernel_rfl))
          by_cases hs10 : k = 10
          · have hr0 := hr.2.1 hs10
            subst hs10
            exact absurd (hy.trans hyt) (ne_true_of_eq_false (by kernel_rfl))
          have hr := hr.2.2 hs7 hs10
          obtain ⟨j, h1, h2, h3⟩ := h; exact ⟨j, h1, Nat.lt_of_lt_of_le h2 hr.size, (hr.block j h2).trans h3⟩
        · intro k hk y hy hyt v w w' h hr
          by_cases hs7 : k = 7
          · have hr0 := hr.1 hs7
            subst hs7
            exact absurd (hy.trans hyt) (ne_true_of_eq_false (by kernel_rfl))
          by_cases hs10 : k = 10
          · have hr0 := hr.2.1 hs10
            subst hs10
            exact absurd (hy.trans hyt) (ne_true_of_eq_false (by kernel_rfl))
          have hr := hr.2.2 hs7 hs10
          exact ⟨own_kept h.1 hr, h.2⟩
        · intro k hk y hy hyt v w w' h hr
          exact h
        · intro k hk y hy hyt v w w' h hr
          exact h
        · intro k hk y hy hyt v w w' h hr
          by_cases hs7 : k = 7
          · have hr0 := hr.1 hs7
            subst hs7
            exact absurd (hy.trans hyt) (ne_true_of_eq_false (by kernel_rfl))
          by_cases hs10 : k = 10
          · have hr0 := hr.2.1 hs10
            subst hs10
            exact absurd (hy.trans hyt) (ne_true_of_eq_false (by kernel_rfl))
          have hr := hr.2.2 hs7 hs10
          exact trivial
      · intro i hi
        rcases (by omega : i = 0 ∨ i = 1 ∨ i = 2 ∨ i = 3 ∨ i = 4 ∨ i = 5 ∨ i = 6 ∨ i = 7 ∨ i = 8 ∨ i = 9 ∨ i = 10) with rfl | rfl | rfl | rfl | rfl | rfl | rfl | rfl | rfl | rfl | rfl
        · -- 0: Op.move (Operand.tmp 0)
          intro l hl vs W dn e1 e2 e3 hS hR hp
          have f7 : dn 7 = dn 7 := rfl
          have f10 : dn 10 = false := e3 10 (by kernel_rfl)
          replace hS : (PushS DT DE b room w4.heap.size w.heap.size VV LX (z1, z2, z3, z4) (dn 7) (dn 10)) W := hS
          rw [f10] at hS
          have g7 : (dn 7 || ((0 : Nat) == 7)) = dn 7 := Bool.or_false _
          have g10 : (dn 10 || ((0 : Nat) == 10)) = false := by rw [f10]; rfl
          refine OpGoal.imp (S1 := PushS DT DE b room w4.heap.size w.heap.size VV LX (z1, z2, z3, z4) (dn 7) false) (fun W' h => ?_) ?_
          · show (PushS DT DE b room w4.heap.size w.heap.size VV LX (z1, z2, z3, z4) (dn 7 || ((0 : Nat) == 7)) (dn 10 || ((0 : Nat) == 10))) W'
            rw [g7, g10]
            exact h
          clear g7 g10 e1 e2 e3
          obtain rfl : l = [] := hl.symm.trans (by kernel_rfl)
          clear hp hl
          refine opgoal (_) (some 52) rfl rfl fun K hK => ?_
          refine Runs.mk ?_
          simp only [putAll]
          go_simp
          refine hK _ _ ?_ hS ⟨fun h => absurd h (by decide), fun h => absurd h (by decide), fun h7 h10 => ((fun w => Below.refl _ w) W)⟩ _ rfl rfl
          first | rfl | go_simp | simp
        · -- 1: Op.move (Operand.tmp 0)
          intro l hl vs W dn e1 e2 e3 hS hR hp
          have f7 : dn 7 = false := e3 7 (by kernel_rfl)
          have f10 : dn 10 = false := e3 10 (by kernel_rfl)
          replace hS : (PushS DT DE b room w4.heap.size w.heap.size VV LX (z1, z2, z3, z4) (dn 7) (dn 10)) W := hS
          rw [f7, f10] at hS
          have g7 : (dn 7 || ((1 : Nat) == 7)) = false := by rw [f7]; rfl
          have g10 : (dn 10 || ((1 : Nat) == 10)) = false := by rw [f10]; rfl
          refine OpGoal.imp (S1 := PushS DT DE b room w4.heap.size w.heap.size VV LX (z1, z2, z3, z4) false false) (fun W' h => ?_) ?_
          · show (PushS DT DE b room w4.heap.size w.heap.size VV LX (z1, z2, z3, z4) (dn 7 || ((1 : Nat) == 7)) (dn 10 || ((1 : Nat) == 10))) W'
            rw [g7, g10]
            exact h
          clear g7 g10 e1 e2 e3
          obtain rfl : l = [] := hl.symm.trans (by kernel_rfl)
          clear hp hl
          refine opgoal (_) (some 53) rfl rfl fun K hK => ?_
          refine Runs.mk ?_
          simp only [putAll]
          go_simp
          refine hK _ _ ?_ hS ⟨fun h => absurd h (by decide), fun h => absurd h (by decide), fun h7 h10 => ((fun w => Below.refl _ w) W)⟩ _ rfl rfl
          first | rfl | go_simp | simp
        · -- 2: Op.nilCheck (Operand.tmp 53)
          intro l hl vs W dn e1 e2 e3 hS hR hp
          have f7 : dn 7 = false := e3 7 (by kernel_rfl)
          have f10 : dn 10 = false := e3 10 (by kernel_rfl)
          replace hS : (PushS DT DE b room w4.heap.size w.heap.size VV LX (z1, z2, z3, z4) (dn 7) (dn 10)) W := hS
          rw [f7, f10] at hS
          have g7 : (dn 7 || ((2 : Nat) == 7)) = false := by rw [f7]; rfl
          have g10 : (dn 10 || ((2 : Nat) == 10)) = false := by rw [f10]; rfl
          refine OpGoal.imp (S1 := PushS DT DE b room w4.heap.size w.heap.size VV LX (z1, z2, z3, z4) false false) (fun W' h => ?_) ?_
          · show (PushS DT DE b room w4.heap.size w.heap.size VV LX (z1, z2, z3, z4) (dn 7 || ((2 : Nat) == 7)) (dn 10 || ((2 : Nat) == 10))) W'
            rw [g7, g10]
            exact h
          clear g7 g10 e1 e2 e3
          obtain rfl : l = [(1, 53)] := hl.symm.trans (by kernel_rfl)
          have p1 : vs 1 = _ := hp 1 (by decide) (by decide)
          clear hp hl
          refine opgoal (_) (some 54) rfl rfl fun K hK => ?_
          refine Runs.mk ?_
          simp only [putAll]
          go_simp
          refine hK _ _ ?_ hS ⟨fun h => absurd h (by decide), fun h => absurd h (by decide), fun h7 h10 => ((fun w => Below.refl _ w) W)⟩ _ rfl rfl
          first | rfl | go_simp | simp
        · -- 3: Op.fieldAddr 92 (Operand.tmp 54) 1
          intro l hl vs W dn e1 e2 e3 hS hR hp
          have f7 : dn 7 = false := e3 7 (by kernel_rfl)
          have f10 : dn 10 = false := e3 10 (by kernel_rfl)
          replace hS : (PushS DT DE b room w4.heap.size w.heap.size VV LX (z1, z2, z3, z4) (dn 7) (dn 10)) W := hS
          rw [f7, f10] at hS
          have g7 : (dn 7 || ((3 : Nat) == 7)) = false := by rw [f7]; rfl
          have g10 : (dn 10 || ((3 : Nat) == 10)) = false := by rw [f10]; rfl
          refine OpGoal.imp (S1 := PushS DT DE b room w4.heap.size w.heap.size VV LX (z1, z2, z3, z4) false false) (fun W' h => ?_) ?_
          · show (PushS DT DE b room w4.heap.size w.heap.size VV LX (z1, z2, z3, z4) (dn 7 || ((3 : Nat) == 7)) (dn 10 || ((3 : Nat) == 10))) W'
            rw [g7, g10]
            exact h
          clear g7 g10 e1 e2 e3
          obtain rfl : l = [(1, 53), (2, 54)] := hl.symm.trans (by kernel_rfl)
          have p2 : vs 2 = _ := hp 2 (by decide) (by decide)
          clear hp hl
          refine opgoal (_) (some 55) rfl rfl fun K hK => ?_
          refine Runs.mk ?_
          simp only [putAll]
          go_simp
          refine hK _ _ ?_ hS ⟨fun h => absurd h (by decide), fun h => absurd h (by decide), fun h7 h10 => ((fun w => Below.refl _ w) W)⟩ _ rfl rfl
          first | rfl | go_simp | simp
        · -- 4: Op.load 90 (Operand.tmp 55)
          intro l hl vs W dn e1 e2 e3 hS hR hp
          have f7 : dn 7 = false := e3 7 (by kernel_rfl)
          have f10 : dn 10 = false := e3 10 (by kernel_rfl)
          replace hS : (PushS DT DE b room w4.heap.size w.heap.size VV LX (z1, z2, z3, z4) (dn 7) (dn 10)) W := hS
          rw [f7, f10] at hS
          have g7 : (dn 7 || ((4 : Nat) == 7)) = false := by rw [f7]; rfl
          have g10 : (dn 10 || ((4 : Nat) == 10)) = false := by rw [f10]; rfl
          refine OpGoal.imp (S1 := PushS DT DE b room w4.heap.size w.heap.size VV LX (z1, z2, z3, z4) false false) (fun W' h => ?_) ?_
          · show (PushS DT DE b room w4.heap.size w.heap.size VV LX (z1, z2, z3, z4) (dn 7 || ((4 : Nat) == 7)) (dn 10 || ((4 : Nat) == 10))) W'
            rw [g7, g10]
            exact h
          clear g7 g10 e1 e2 e3
          obtain rfl : l = [(1, 53), (2, 54), (3, 55)] := hl.symm.trans (by kernel_rfl)
          have p3 : vs 3 = _ := hp 3 (by decide) (by decide)
          clear hp hl
          refine opgoal (_) (some 56) rfl rfl fun K hK => ?_
          have hc1 : W.cell? ⟨b, 1, none⟩ = some VV := (hS.blk rfl).2
          rw [hVV.out] at hc1
          refine Runs.mk ?_
          simp only [putAll]
          go_simp
          refine hK _ _ ?_ hS ⟨fun h => absurd h (by decide), fun h => absurd h (by decide), fun h7 h10 => ((fun w => Below.refl _ w) W)⟩ _ rfl rfl
          first | rfl | go_simp | simp
        · -- 5: Op.load 94 (Operand.tmp 3)
          intro l hl vs W dn e1 e2 e3 hS hR hp
          have f7 : dn 7 = false := e3 7 (by kernel_rfl)
          have f10 : dn 10 = false := e3 10 (by kernel_rfl)
          replace hS : (PushS DT DE b room w4.heap.size w.heap.size VV LX (z1, z2, z3, z4) (dn 7) (dn 10)) W := hS
          rw [f7, f10] at hS
          have g7 : (dn 7 || ((5 : Nat) == 7)) = false := by rw [f7]; rfl
          have g10 : (dn 10 || ((5 : Nat) == 10)) = false := by rw [f10]; rfl
          refine OpGoal.imp (S1 := PushS DT DE b room w4.heap.size w.heap.size VV LX (z1, z2, z3, z4) false false) (fun W' h => ?_) ?_
          · show (PushS DT DE b room w4.heap.size w.heap.size VV LX (z1, z2, z3, z4) (dn 7 || ((5 : Nat) == 7)) (dn 10 || ((5 : Nat) == 10))) W'
            rw [g7, g10]
            exact h
          clear g7 g10 e1 e2 e3
          obtain rfl : l = [] := hl.symm.trans (by kernel_rfl)
          clear hp hl
          refine opgoal (_) (some 57) rfl rfl fun K hK => ?_
          obtain ⟨c0, c1, c2, c3⟩ := hS.ent
          dsimp only at c0 c1 c2 c3
          refine Runs.mk ?_
          simp only [putAll]
          go_simp
          refine hK _ _ ?_ hS ⟨fun h => absurd h (by decide), fun h => absurd h (by decide), fun h7 h10 => ((fun w => Below.refl _ w) W)⟩ _ rfl rfl
          first | rfl | go_simp | simp
        · -- 6: Op.buildSlice 90 1 #[(0, Operand.tmp 57)]
          intro l hl vs W dn e1 e2 e3 hS hR hp
          have f7 : dn 7 = false := e3 7 (by kernel_rfl)
          have f10 : dn 10 = false := e3 10 (by kernel_rfl)
          replace hS : (PushS DT DE b room w4.heap.size w.heap.size VV LX (z1, z2, z3, z4) (dn 7) (dn 10)) W := hS
          rw [f7, f10] at hS
          have g7 : (dn 7 || ((6 : Nat) == 7)) = false := by rw [f7]; rfl
          have g10 : (dn 10 || ((6 : Nat) == 10)) = false := by rw [f10]; rfl
          refine OpGoal.imp (S1 := PushS DT DE b room w4.heap.size w.heap.size VV LX (z1, z2, z3, z4) false false) (fun W' h => ?_) ?_
          · show (PushS DT DE b room w4.heap.size w.heap.size VV LX (z1, z2, z3, z4) (dn 7 || ((6 : Nat) == 7)) (dn 10 || ((6 : Nat) == 10))) W'
            rw [g7, g10]
            exact h
          clear g7 g10 e1 e2 e3
          obtain rfl : l = [(5, 57)] := hl.symm.trans (by kernel_rfl)
          have p5 : vs 5 = _ := hp 5 (by decide) (by decide)
          clear hp hl
          refine opgoal (_) (some 58) rfl rfl fun K hK => ?_
          refine Runs.mk ?_
          simp only [putAll]
          go_simp
          have hb := below_alloc W (.cells #[.int .i64 z1, .int .i64 z2, .int .i64 z3, .int .i64 z4] DE)
          exact hK _ _ ⟨W.heap.size, rfl, by simp, heap_alloc_new _ _⟩ (hS.below hb) ⟨(fun h => absurd h (by decide)), (fun h => absurd h (by decide)), fun h7 h10 => hb⟩ _ rfl rfl
        · -- 7: Op.call { callee := Callee.builtin Builtin.append, args := #[Operand.tmp 56, Operand.tmp 58], argTypes := #[90, 90] }
          intro l hl vs W dn e1 e2 e3 hS hR hp
          have f7 : dn 7 = false := e1
          have f10 : dn 10 = false := e3 10 (by kernel_rfl)
          replace hS : (PushS DT DE b room w4.heap.size w.heap.size VV LX (z1, z2, z3, z4) (dn 7) (dn 10)) W := hS
          rw [f7, f10] at hS
          have g7 : (dn 7 || ((7 : Nat) == 7)) = true := by rw [f7]; rfl
          have g10 : (dn 10 || ((7 : Nat) == 10)) = false := by rw [f10]; rfl
          refine OpGoal.imp (S1 := PushS DT DE b room w4.heap.size w.heap.size VV LX (z1, z2, z3, z4) true false) (fun W' h => ?_) ?_
          · show (PushS DT DE b room w4.heap.size w.heap.size VV LX (z1, z2, z3, z4) (dn 7 || ((7 : Nat) == 7)) (dn 10 || ((7 : Nat) == 10))) W'
            rw [g7, g10]
            exact h
          clear g7 g10 e1 e2 e3
          obtain rfl : l = [(1, 53), (2, 54), (3, 55), (4, 56), (5, 57), (6, 58)] := hl.symm.trans (by kernel_rfl)
          have p4 : vs 4 = _ := hp 4 (by decide) (by decide)
          have p6 : (fun v W => ∃ j, v = .slice (some ⟨j, 0, none⟩) 1 1 ∧ j < W.heap.size ∧ W.heap[j]? = some (.cells #[.int .i64 z1, .int .i64 z2, .int .i64 z3, .int .i64 z4] DE (0, 0))) (vs 6) W := hp 6 (by decide) (by decide)
          dsimp only at p6
          clear hp hl
          obtain ⟨j, q6, l6, b6⟩ := p6
          refine opgoal ({ dst := some 59, op := Op.call { callee := Callee.builtin Builtin.append, args := #[Operand.tmp 56, Operand.tmp 58], argTypes := #[90, 90] }, type := 90, pos := "ref.go:43", after := #[{ on := 4, ground := Ground.data }, { on := 6, ground := Ground.data }], guard := none }) (some 59) rfl rfl fun K hK => ?_
          refine runs_append_src W (wanted_none rfl) (.tmp 56) (.tmp 58) (b + 1) 90 DE (.agg #[.int .i64 0, .int .i64 0, .int .i64 0, .int .i64 0]) 4 32 rfl (by kernel_rfl) (by kernel_rfl) rfl (by decide) (by decide) VV LX.length (LX.flatMap encE) (by simp [putAll, Act.put, Act.eval, p4, hVV.out]) (hS.own rfl) (some ⟨j, 0, none⟩) 1 1 (by simp [putAll, Act.put, Act.eval, q6]) (fun h => by cases h) [.int .i64 z1, .int .i64 z2, .int .i64 z3, .int .i64 z4] rfl (lies_block b6) (by simp [Value.oneCell']) (by have := hsm.out; omega) (by have := hS.szw; have := hS.sb; omega) ?_
          intro v' w' h1 h2 h3
          have hkk : Keep VV.ownBlock.toList W w' := keep_grown h2 _ (fun j hj _ => by simp [hj])
          exact hK _ _ ⟨h1, h3.elim (fun h => .inl h) (fun h => .inr fun k hk => (by rw [h] at hk; cases hk; exact hS.szw))⟩ (hS.app hkk) ⟨(fun _ => hkk), (fun h => absurd h (by decide)), fun h7 h10 => absurd rfl h7⟩ _ put_dfs (put_slot (by simp))
        · -- 8: Op.nilCheck (Operand.tmp 52)
          intro l hl vs W dn e1 e2 e3 hS hR hp
          have f7 : dn 7 = true := e2 7 (by kernel_rfl)
          have f10 : dn 10 = false := e3 10 (by kernel_rfl)
          replace hS : (PushS DT DE b room w4.heap.size w.heap.size VV LX (z1, z2, z3, z4) (dn 7) (dn 10)) W := hS
          rw [f7, f10] at hS
          have g7 : (dn 7 || ((8 : Nat) == 7)) = true := by rw [f7]; rfl
          have g10 : (dn 10 || ((8 : Nat) == 10)) = false := by rw [f10]; rfl
          refine OpGoal.imp (S1 := PushS DT DE b room w4.heap.size w.heap.size VV LX (z1, z2, z3, z4) true false) (fun W' h => ?_) ?_
          · show (PushS DT DE b room w4.heap.size w.heap.size VV LX (z1, z2, z3, z4) (dn 7 || ((8 : Nat) == 7)) (dn 10 || ((8 : Nat) == 10))) W'
            rw [g7, g10]
            exact h
          clear g7 g10 e1 e2 e3
          obtain rfl : l = [(0, 52), (1, 53), (2, 54), (3, 55), (4, 56), (5, 57), (6, 58), (7, 59)] := hl.symm.trans (by kernel_rfl)
          have p0 : vs 0 = _ := hp 0 (by decide) (by decide)
          clear hp hl
          refine opgoal (_) (some 60) rfl rfl fun K hK => ?_
          refine Runs.mk ?_
          simp only [putAll]
          go_simp
          refine hK _ _ ?_ hS ⟨fun h => absurd h (by decide), fun h => absurd h (by decide), fun h7 h10 => ((fun w => Below.refl _ w) W)⟩ _ rfl rfl
          first | rfl | go_simp | simp
        · -- 9: Op.fieldAddr 92 (Operand.tmp 60) 1
          intro l hl vs W dn e1 e2 e3 hS hR hp
          have f7 : dn 7 = true := e2 7 (by kernel_rfl)
          have f10 : dn 10 = false := e3 10 (by kernel_rfl)
          replace hS : (PushS DT DE b room w4.heap.size w.heap.size VV LX (z1, z2, z3, z4) (dn 7) (dn 10)) W := hS
          rw [f7, f10] at hS
          have g7 : (dn 7 || ((9 : Nat) == 7)) = true := by rw [f7]; rfl
          have g10 : (dn 10 || ((9 : Nat) == 10)) = false := by rw [f10]; rfl
          refine OpGoal.imp (S1 := PushS DT DE b room w4.heap.size w.heap.size VV LX (z1, z2, z3, z4) true false) (fun W' h => ?_) ?_
          · show (PushS DT DE b room w4.heap.size w.heap.size VV LX (z1, z2, z3, z4) (dn 7 || ((9 : Nat) == 7)) (dn 10 || ((9 : Nat) == 10))) W'
            rw [g7, g10]
            exact h
          clear g7 g10 e1 e2 e3
          obtain rfl : l = [(0, 52), (1, 53), (2, 54), (3, 55), (4, 56), (5, 57), (6, 58), (7, 59), (8, 60)] := hl.symm.trans (by kernel_rfl)
          have p8 : vs 8 = _ := hp 8 (by decide) (by decide)
          clear hp hl
          refine opgoal (_) (some 61) rfl rfl fun K hK => ?_
          refine Runs.mk ?_
          simp only [putAll]
          go_simp
          refine hK _ _ ?_ hS ⟨fun h => absurd h (by decide), fun h => absurd h (by decide), fun h7 h10 => ((fun w => Below.refl _ w) W)⟩ _ rfl rfl
          first | rfl | go_simp | simp
        · -- 10: Op.store 90 (Operand.tmp 61) (Operand.tmp 59)
          intro l hl vs W dn e1 e2 e3 hS hR hp
          have f7 : dn 7 = true := e2 7 (by kernel_rfl)
          have f10 : dn 10 = false := e1
          replace hS : (PushS DT DE b room w4.heap.size w.heap.size VV LX (z1, z2, z3, z4) (dn 7) (dn 10)) W := hS
          rw [f7, f10] at hS
          have g7 : (dn 7 || ((10 : Nat) == 7)) = true := by rw [f7]; rfl
          have g10 : (dn 10 || ((10 : Nat) == 10)) = true := by rw [f10]; rfl
          refine OpGoal.imp (S1 := PushS DT DE b room w4.heap.size w.heap.size VV LX (z1, z2, z3, z4) true true) (fun W' h => ?_) ?_
          · show (PushS DT DE b room w4.heap.size w.heap.size VV LX (z1, z2, z3, z4) (dn 7 || ((10 : Nat) == 7)) (dn 10 || ((10 : Nat) == 10))) W'
            rw [g7, g10]
            exact h
          clear g7 g10 e1 e2 e3
          obtain rfl : l = [(0, 52), (1, 53), (2, 54), (3, 55), (4, 56), (5, 57), (6, 58), (7, 59), (8, 60), (9, 61)] := hl.symm.trans (by kernel_rfl)
          have p7 : (fun v W => W.ownsRow (b + 1) DE 4 v (LX.length + 1) (LX.flatMap encE ++ encE (z1, z2, z3, z4)) ∧ (v.ownBlock = VV.ownBlock ∨ ∀ k, v.ownBlock = some k → w4.heap.size ≤ k)) (vs 7) W := hp 7 (by decide) (by decide)
          dsimp only at p7
          have p9 : vs 9 = _ := hp 9 (by decide) (by decide)
          clear hp hl
          obtain ⟨o7, r7⟩ := p7
          refine opgoal (_) (none) rfl rfl fun K hK => ?_
          obtain ⟨A', c', q7⟩ := own_form4 o7
          rw [q7] at o7 r7
          have hc1 : W.cell? ⟨b, 1, none⟩ = some VV := (hS.blk rfl).2
          have hf1 : W.frozen? ⟨b, 1, none⟩ = false := frozen_of_row W _ _ _ _ (hS.blk rfl).1
          refine Runs.mk ?_
          simp only [putAll]
          go_simp
          exact hK undef _ trivial (hS.fin o7 r7) ⟨(fun h => absurd h (by decide)), (fun _ => (Keep.refl _ _).setCell (p := ⟨b, 1, none⟩) (.inl (by simp)) _), fun h7 h10 => absurd rfl h10⟩ _ rfl rfl
      · intro l hl vs W dn hd hS hR hp
        replace hS : (PushS DT DE b room w4.heap.size w.heap.size VV LX (z1, z2, z3, z4) (dn 7) (dn 10)) W := hS
        rw [hd 7 (by decide), hd 10 (by decide)] at hS
        obtain rfl : l = [(0, 52), (1, 53), (2, 54), (3, 55), (4, 56), (5, 57), (6, 58), (7, 59), (8, 60), (9, 61)] := hl.symm.trans (by kernel_rfl)
        have p0 : vs 0 = _ := hp 0 (by decide) (by decide)
        have p1 : vs 1 = _ := hp 1 (by decide) (by decide)
        have p2 : vs 2 = _ := hp 2 (by decide) (by decide)
        have p3 : vs 3 = _ := hp 3 (by decide) (by decide)
        have p4 : vs 4 = _ := hp 4 (by decide) (by decide)
        have p5 : vs 5 = _ := hp 5 (by decide) (by decide)
        have p8 : vs 8 = _ := hp 8 (by decide) (by decide)
        have p9 : vs 9 = _ := hp 9 (by decide) (by decide)
        have p10 : (fun v W => True) (vs 10) W := hp 10 (by decide) (by decide)
        dsimp only at p10
        clear hp hl
        simp only [putAll_mk, setAll, List.setIfInBounds_toArray, List.set_cons_succ, List.set_cons_zero, p0, p1, p2, p3, p4, p5, p8, p9]
        have HS := Lib.hid hS
        have HR := Lib.hid hR
        clear hS hR p10
        go_wp2
        go_ret
        exact ⟨rfl, HFIN.out _ HS.out HR.out⟩
end Go.Proofs.Ytbdcgfdchkbcnaa.Ca

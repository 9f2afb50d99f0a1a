/- wheel: the sort's walk: swapRange, rotate. -/
import Derived.Test.YtbifmdepkbgnjaaWhS
import Derived.Test.YtbifmdepkbgnjaaD
import Derived.Test.YtbifmdepkbgnjaaQ
namespace Go.Proofs.Ytbifmdepkbgnjaa.Wh
open Go.RowKit Go.Proofs.Ytbifmdepkbgnjaa.L Go.Proofs.Ytbifmdepkbgnjaa.R Go.Proofs.Ytbifmdepkbgnjaa.A Go.Proofs.Ytbifmdepkbgnjaa.S Go.Proofs.Ytbifmdepkbgnjaa.T Go.Proofs.Ytbifmdepkbgnjaa.C Go.Proofs.Ytbifmdepkbgnjaa.G Go.Proofs.Ytbifmdepkbgnjaa.E Go.Proofs.Ytbifmdepkbgnjaa.F
set_option linter.unusedVariables false
set_option linter.unusedSimpArgs false

/-- one timer of an owned row is stored. -/
theorem own_setT {w : World} {base g c n i : Nat} {T : List Tm} (h : w.ownsRow base TM 7 (.slice (some ⟨g, 0, none⟩) n c) n (T.flatMap encT)) (hl : T.length = n) (hi : i < n) (z : Tm) :
    ∃ cur, w.heap[g]? = some (.cells cur TM (0, 0)) ∧ i * 7 + 7 ≤ cur.size ∧ ∀ w' : World, w'.heap[g]? = some (.cells (cur.toList.take (i * 7) ++ encT z ++ cur.toList.drop (i * 7 + 7)).toArray TM (0, 0)) → w'.ownsRow base TM 7 (.slice (some ⟨g, 0, none⟩) n c) n ((T.set i z).flatMap encT) := by
  obtain ⟨cur, h1, h2, h3⟩ := own_store h (i * 7) (encT z) (by rw [encT_len]; omega)
  refine ⟨cur, h1, h2, fun w' hw => ?_⟩
  have h4 := h3 w' hw
  rw [flat_set (by omega) z] at h4
  exact h4
/-- one timer of an owned row is read. -/
theorem own_getT {w : World} {base g c n i : Nat} {T : List Tm} {z : Tm} (h : w.ownsRow base TM 7 (.slice (some ⟨g, 0, none⟩) n c) n (T.flatMap encT)) (hz : T[i]? = some z) :
    w.cell? ⟨g, i * 7, none⟩ = some (.int .i64 z.1) ∧ w.cell? ⟨g, i * 7 + 1, none⟩ = some (.int .i64 z.2.1) ∧ w.cell? ⟨g, i * 7 + 2, none⟩ = some (.int .i64 z.2.2.1) ∧ w.cell? ⟨g, i * 7 + 3, none⟩ = some (.int .i64 z.2.2.2.1) ∧ w.cell? ⟨g, i * 7 + 4, none⟩ = some (.int .i64 z.2.2.2.2.1) ∧ w.cell? ⟨g, i * 7 + 5, none⟩ = some (.int .i64 z.2.2.2.2.2.1) ∧ w.cell? ⟨g, i * 7 + 6, none⟩ = some (.int .i64 z.2.2.2.2.2.2) := by
  obtain ⟨-, -, -, -, -, -, hr⟩ := own_some h
  have f := fun j hj => flat_at encT_len (j := j) hj T i
  simp only [hz, Option.bind_some] at f
  exact ⟨hr _ _ (f 0 (by decide)), hr _ _ (f 1 (by decide)), hr _ _ (f 2 (by decide)), hr _ _ (f 3 (by decide)), hr _ _ (f 4 (by decide)), hr _ _ (f 5 (by decide)), hr _ _ (f 6 (by decide))⟩
set_option maxHeartbeats 8000000 in
set_option maxRecDepth 100000 in
theorem swapRange_any (base g c n a0 b0 m : Nat) (T : List Tm) (f : Value) (w : World) (h : w.ownsRow base TM 7 (.slice (some ⟨g, 0, none⟩) n c) n (T.flatMap encT)) (hl : T.length = n) (hn : n ≤ 1000000) (ha : a0 + m ≤ n) (hb : b0 + m ≤ n) :
    Calls Try.prog 41 #[.slice (some ⟨g, 0, none⟩) n c, .int .i64 a0, .int .i64 b0, .int .i64 m, f] w fun e w' => e = .returned (.tuple #[]) ∧ w'.ownsRow base TM 7 (.slice (some ⟨g, 0, none⟩) n c) n ((swapR T a0 b0 m).flatMap encT) ∧ Keep [g] w w' := by
  have HH := Lib.hid h
  have HL := Lib.hid hl
  clear h hl
  go_enter Try.func41, Try.ntmps41
  go_wp2_with fail
  go_loopw [10] (fun i wr => ∃ k : Nat, k ≤ m ∧ i = .int .i64 k ∧ Hid (wr.ownsRow base TM 7 (.slice (some ⟨g, 0, none⟩) n c) n ((swapR T a0 b0 k).flatMap encT) ∧ Keep [g] w wr)) (fun i _ => m - (intOf i).toNat)
  case atStart => exact ⟨0, by omega, rfl, Lib.hid ⟨HH.out, Keep.refl _ _⟩⟩
  case round =>
    obtain ⟨k, hk, rfl, HI⟩ := hrel
    by_cases hlt : k < m
    · obtain ⟨T0, hT0⟩ : ∃ T0, swapR T a0 b0 k = T0 := ⟨_, rfl⟩
      have hl0 : T0.length = n := by rw [← hT0, swapR_len]; exact HL.out
      obtain ⟨ii, hiie⟩ : ∃ ii, a0 + k = ii := ⟨_, rfl⟩
      obtain ⟨jj, hjje⟩ : ∃ jj, b0 + k = jj := ⟨_, rfl⟩
      have hii : ii < n := by omega
      have hjj : jj < n := by omega
      obtain ⟨x, hx⟩ : ∃ x, T0[ii]? = some x := ⟨_, List.getElem?_eq_getElem (by omega)⟩
      obtain ⟨y, hy⟩ : ∃ y, T0[jj]? = some y := ⟨_, List.getElem?_eq_getElem (by omega)⟩
      have HN : Hid (swapR T a0 b0 (k + 1) = (T0.set ii y).set jj x) := Lib.hid (by rw [swapR, hT0, hiie, hjje, swp_at hx hy])
      have HL0 := Lib.hid hl0
      have HL1 : Hid ((T0.set ii y).length = n) := Lib.hid (by rw [List.length_set]; exact hl0)
      have HII : Hid (IntKind.i64.wrap ((a0 : Int) + (k : Int)) = (ii : Int)) := Lib.hid (by rw [IntKind.wrap_i64]; omega)
      have HJJ : Hid (IntKind.i64.wrap ((b0 : Int) + (k : Int)) = (jj : Int)) := Lib.hid (by rw [IntKind.wrap_i64]; omega)
      have HCI := Lib.hid (fun (W : World) (h : W.ownsRow base TM 7 (.slice (some ⟨g, 0, none⟩) n c) n (T0.flatMap encT)) => own_getT h hx)
      have HCJ := Lib.hid (fun (W : World) (h : W.ownsRow base TM 7 (.slice (some ⟨g, 0, none⟩) n c) n (T0.flatMap encT)) => own_getT h hy)
      have hi0 := HI.out.1
      rw [hT0] at hi0
      have hS0 : wr.drew.ownsRow base TM 7 (.slice (some ⟨g, 0, none⟩) n c) n (T0.flatMap encT) := own_kept hi0 (below_drewN 1 wr)
      have HS0 := Lib.hid hS0
      obtain ⟨x1, x2, x3, x4, x5, x6, x7⟩ := x
      obtain ⟨y1, y2, y3, y4, y5, y6, y7⟩ := y
      dsimp only at HCI HCJ HN HL1
      clear hS0 hi0 hx hy hl0 hT0 hiie hjje
      go_wp2_with fail
      have hS0 := HS0.out
      have hiI : (ii : Int) < (n : Int) := by omega
      have hjI : (jj : Int) < (n : Int) := by omega
      refine wp_region_done (fun dnf => fun W => W.ownsRow base TM 7 (.slice (some ⟨g, 0, none⟩) n c) n ((if (dnf 23) then ((T0.set ii (y1, y2, y3, y4, y5, y6, y7)).set jj (x1, x2, x3, x4, x5, x6, x7)) else if (dnf 21) then T0.set ii (y1, y2, y3, y4, y5, y6, y7) else T0).flatMap encT)) (fun u v => Keep [g] u v) (fun k u v => (k = 21 → (fun u v => Keep [g] u v) u v) ∧ (k = 23 → (fun u v => Keep [g] u v) u v) ∧ (¬ k = 21 → ¬ k = 23 → (fun u v => Keep [g] u v) u v)) (fun a i => match i with
          | 0 => (fun v _ => v = .slice (some ⟨g, 0, none⟩) n c)
          | 1 => (fun v _ => v = .int .i64 (a0 : Int))
          | 2 => (fun v _ => v = .int .i64 (k : Int))
          | 3 => (fun v _ => v = .int .i64 (ii : Int))
          | 4 => (fun v _ => v = .slice (some ⟨g, 0, none⟩) n c)
          | 5 => (fun v _ => v = .int .i64 (b0 : Int))
          | 6 => (fun v _ => v = .int .i64 (k : Int))
          | 7 => (fun v _ => v = .int .i64 (jj : Int))
          | 8 => (fun v _ => v = .slice (some ⟨g, 0, none⟩) n c)
          | 9 => (fun v _ => v = .int .i64 (b0 : Int))
          | 10 => (fun v _ => v = .int .i64 (k : Int))
          | 11 => (fun v _ => v = .int .i64 (jj : Int))
          | 12 => (fun v _ => v = .pointer (some ⟨g, jj * 7, none⟩))
          | 13 => (fun v _ => v = .agg #[.int .i64 y1, .int .i64 y2, .int .i64 y3, .int .i64 y4, .int .i64 y5, .int .i64 y6, .int .i64 y7])
          | 14 => (fun v _ => v = .slice (some ⟨g, 0, none⟩) n c)
          | 15 => (fun v _ => v = .int .i64 (a0 : Int))
          | 16 => (fun v _ => v = .int .i64 (k : Int))
          | 17 => (fun v _ => v = .int .i64 (ii : Int))
          | 18 => (fun v _ => v = .pointer (some ⟨g, ii * 7, none⟩))
          | 19 => (fun v _ => v = .agg #[.int .i64 x1, .int .i64 x2, .int .i64 x3, .int .i64 x4, .int .i64 x5, .int .i64 x6, .int .i64 x7])
          | 20 => (fun v _ => v = .pointer (some ⟨g, ii * 7, none⟩))
          | 21 => (fun v W => True)
          | 22 => (fun v _ => v = .pointer (some ⟨g, jj * 7, none⟩))
          | 23 => (fun v W => True)
          | _ => (fun _ _ => True)) #[0, 0, 0, 6, 0, 0, 0, 96, 0, 0, 0, 1536, 3840, 7936, 0, 0, 0, 98304, 245760, 507904, 1048335, 2096911, 4194303, 8388607] #[0, 0, 0, 6, 0, 0, 0, 96, 0, 0, 0, 1536, 2304, 4096, 0, 0, 0, 98304, 147456, 262144, 9, 1056768, 144, 4718592] 6291455 (by kernel_rfl) 24 rfl (fun m hm => by subst hm; kernel_rfl) (by kernel_rfl) (fun w => Keep.refl _ w) (fun u v w h1 h2 => h1.trans h2) ?_ ?_ (hS0) ?_ ?_
      · intro k u v hk hr
        by_cases hs21 : k = 21
        · have h := hr.1 hs21; exact h
        by_cases hs23 : k = 23
        · have h := hr.2.1 hs23; exact h
        have h := hr.2.2 hs21 hs23; exact h
      · intro i hi
        rcases (by omega : i = 0 ∨ i = 1 ∨ i = 2 ∨ i = 3 ∨ i = 4 ∨ i = 5 ∨ i = 6 ∨ i = 7 ∨ i = 8 ∨ i = 9 ∨ i = 10 ∨ i = 11 ∨ i = 12 ∨ i = 13 ∨ i = 14 ∨ i = 15 ∨ i = 16 ∨ i = 17 ∨ i = 18 ∨ i = 19 ∨ i = 20 ∨ i = 21 ∨ i = 22 ∨ i = 23) with rfl | rfl | rfl | rfl | rfl | rfl | rfl | rfl | rfl | rfl | rfl | rfl | rfl | rfl | rfl | rfl | rfl | rfl | rfl | rfl | rfl | rfl | rfl | rfl
        · intro k hk y hy hyt v w w' h hr
          exact h
        · intro k hk y hy hyt v w w' h hr
          exact h
        · intro k hk y hy hyt v w w' h hr
          exact h
        · intro k hk y hy hyt v w w' h hr
          exact h
        · intro k hk y hy hyt v w w' h hr
          exact h
        · intro k hk y hy hyt v w w' h hr
          exact h
        · intro k hk y hy hyt v w w' h hr
          exact h
        · intro k hk y hy hyt v w w' h hr
          exact h
        · intro k hk y hy hyt v w w' h hr
          exact h
        · intro k hk y hy hyt v w w' h hr
          exact h
        · intro k hk y hy hyt v w w' h hr
          exact h
        · intro k hk y hy hyt v w w' h hr
          exact h
        · intro k hk y hy hyt v w w' h hr
          exact h
        · intro k hk y hy hyt v w w' h hr
          exact h
        · intro k hk y hy hyt v w w' h hr
          exact h
        · intro k hk y hy hyt v w w' h hr
          exact h
        · intro k hk y hy hyt v w w' h hr
          exact h
        · intro k hk y hy hyt v w w' h hr
          exact h
        · intro k hk y hy hyt v w w' h hr
          exact h
        · intro k hk y hy hyt v w w' h hr
          exact h
        · intro k hk y hy hyt v w w' h hr
          exact h
        · intro k hk y hy hyt v w w' h hr
          by_cases hs21 : k = 21
          · have hr0 := hr.1 hs21
            subst hs21
            exact absurd (hy.trans hyt) (ne_true_of_eq_false (by kernel_rfl))
          by_cases hs23 : k = 23
          · have hr0 := hr.2.1 hs23
            subst hs23
            exact absurd (hy.trans hyt) (ne_true_of_eq_false (by kernel_rfl))
          have hr := hr.2.2 hs21 hs23
          exact trivial
        · intro k hk y hy hyt v w w' h hr
          exact h
        · intro k hk y hy hyt v w w' h hr
          by_cases hs21 : k = 21
          · have hr0 := hr.1 hs21
            subst hs21
            exact absurd (hy.trans hyt) (ne_true_of_eq_false (by kernel_rfl))
          by_cases hs23 : k = 23
          · have hr0 := hr.2.1 hs23
            subst hs23
            exact absurd (hy.trans hyt) (ne_true_of_eq_false (by kernel_rfl))
          have hr := hr.2.2 hs21 hs23
          exact trivial
      · intro i hi
        rcases (by omega : i = 0 ∨ i = 1 ∨ i = 2 ∨ i = 3 ∨ i = 4 ∨ i = 5 ∨ i = 6 ∨ i = 7 ∨ i = 8 ∨ i = 9 ∨ i = 10 ∨ i = 11 ∨ i = 12 ∨ i = 13 ∨ i = 14 ∨ i = 15 ∨ i = 16 ∨ i = 17 ∨ i = 18 ∨ i = 19 ∨ i = 20 ∨ i = 21 ∨ i = 22 ∨ i = 23) with rfl | rfl | rfl | rfl | rfl | rfl | rfl | rfl | rfl | rfl | rfl | rfl | rfl | rfl | rfl | rfl | rfl | rfl | rfl | rfl | rfl | rfl | rfl | rfl
        · -- 0: Op.move (Operand.tmp 0)
          intro l hl vs W dn e1 e2 e3 hS hR hp
          have f21 : dn 21 = false := e3 21 (by kernel_rfl)
          have f23 : dn 23 = false := e3 23 (by kernel_rfl)
          replace hS : (fun W => W.ownsRow base TM 7 (.slice (some ⟨g, 0, none⟩) n c) n ((if (dn 23) then ((T0.set ii (y1, y2, y3, y4, y5, y6, y7)).set jj (x1, x2, x3, x4, x5, x6, x7)) else if (dn 21) then T0.set ii (y1, y2, y3, y4, y5, y6, y7) else T0).flatMap encT)) W := hS
          rw [f21, f23] at hS
          have g21 : (dn 21 || ((0 : Nat) == 21)) = false := by rw [f21]; rfl
          have g23 : (dn 23 || ((0 : Nat) == 23)) = false := by rw [f23]; rfl
          refine OpGoal.imp (S1 := fun W => W.ownsRow base TM 7 (.slice (some ⟨g, 0, none⟩) n c) n ((if false then ((T0.set ii (y1, y2, y3, y4, y5, y6, y7)).set jj (x1, x2, x3, x4, x5, x6, x7)) else if false then T0.set ii (y1, y2, y3, y4, y5, y6, y7) else T0).flatMap encT)) (fun W' h => ?_) ?_
          · show (fun W => W.ownsRow base TM 7 (.slice (some ⟨g, 0, none⟩) n c) n ((if (dn 23 || ((0 : Nat) == 23)) then ((T0.set ii (y1, y2, y3, y4, y5, y6, y7)).set jj (x1, x2, x3, x4, x5, x6, x7)) else if (dn 21 || ((0 : Nat) == 21)) then T0.set ii (y1, y2, y3, y4, y5, y6, y7) else T0).flatMap encT)) W'
            rw [g21, g23]
            exact h
          clear g21 g23 e1 e2 e3
          obtain rfl : l = [] := hl.symm.trans (by kernel_rfl)
          clear hp hl
          refine opgoal (_) (some 16) rfl rfl fun K hK => ?_
          refine Runs.mk ?_
          simp only [putAll]
          go_simp
          refine hK _ _ ?_ hS ⟨fun h => absurd h (by decide), fun h => absurd h (by decide), fun h21 h23 => ((fun w => Keep.refl _ w) W)⟩ _ rfl rfl
          first | rfl | go_simp | simp
        · -- 1: Op.move (Operand.tmp 1)
          intro l hl vs W dn e1 e2 e3 hS hR hp
          have f21 : dn 21 = false := e3 21 (by kernel_rfl)
          have f23 : dn 23 = false := e3 23 (by kernel_rfl)
          replace hS : (fun W => W.ownsRow base TM 7 (.slice (some ⟨g, 0, none⟩) n c) n ((if (dn 23) then ((T0.set ii (y1, y2, y3, y4, y5, y6, y7)).set jj (x1, x2, x3, x4, x5, x6, x7)) else if (dn 21) then T0.set ii (y1, y2, y3, y4, y5, y6, y7) else T0).flatMap encT)) W := hS
          rw [f21, f23] at hS
          have g21 : (dn 21 || ((1 : Nat) == 21)) = false := by rw [f21]; rfl
          have g23 : (dn 23 || ((1 : Nat) == 23)) = false := by rw [f23]; rfl
          refine OpGoal.imp (S1 := fun W => W.ownsRow base TM 7 (.slice (some ⟨g, 0, none⟩) n c) n ((if false then ((T0.set ii (y1, y2, y3, y4, y5, y6, y7)).set jj (x1, x2, x3, x4, x5, x6, x7)) else if false then T0.set ii (y1, y2, y3, y4, y5, y6, y7) else T0).flatMap encT)) (fun W' h => ?_) ?_
          · show (fun W => W.ownsRow base TM 7 (.slice (some ⟨g, 0, none⟩) n c) n ((if (dn 23 || ((1 : Nat) == 23)) then ((T0.set ii (y1, y2, y3, y4, y5, y6, y7)).set jj (x1, x2, x3, x4, x5, x6, x7)) else if (dn 21 || ((1 : Nat) == 21)) then T0.set ii (y1, y2, y3, y4, y5, y6, y7) else T0).flatMap encT)) W'
            rw [g21, g23]
            exact h
          clear g21 g23 e1 e2 e3
          obtain rfl : l = [] := hl.symm.trans (by kernel_rfl)
          clear hp hl
          refine opgoal (_) (some 17) rfl rfl fun K hK => ?_
          refine Runs.mk ?_
          simp only [putAll]
          go_simp
          refine hK _ _ ?_ hS ⟨fun h => absurd h (by decide), fun h => absurd h (by decide), fun h21 h23 => ((fun w => Keep.refl _ w) W)⟩ _ rfl rfl
          first | rfl | go_simp | simp
        · -- 2: Op.move (Operand.tmp 10)
          intro l hl vs W dn e1 e2 e3 hS hR hp
          have f21 : dn 21 = false := e3 21 (by kernel_rfl)
          have f23 : dn 23 = false := e3 23 (by kernel_rfl)
          replace hS : (fun W => W.ownsRow base TM 7 (.slice (some ⟨g, 0, none⟩) n c) n ((if (dn 23) then ((T0.set ii (y1, y2, y3, y4, y5, y6, y7)).set jj (x1, x2, x3, x4, x5, x6, x7)) else if (dn 21) then T0.set ii (y1, y2, y3, y4, y5, y6, y7) else T0).flatMap encT)) W := hS
          rw [f21, f23] at hS
          have g21 : (dn 21 || ((2 : Nat) == 21)) = false := by rw [f21]; rfl
          have g23 : (dn 23 || ((2 : Nat) == 23)) = false := by rw [f23]; rfl
          refine OpGoal.imp (S1 := fun W => W.ownsRow base TM 7 (.slice (some ⟨g, 0, none⟩) n c) n ((if false then ((T0.set ii (y1, y2, y3, y4, y5, y6, y7)).set jj (x1, x2, x3, x4, x5, x6, x7)) else if false then T0.set ii (y1, y2, y3, y4, y5, y6, y7) else T0).flatMap encT)) (fun W' h => ?_) ?_
          · show (fun W => W.ownsRow base TM 7 (.slice (some ⟨g, 0, none⟩) n c) n ((if (dn 23 || ((2 : Nat) == 23)) then ((T0.set ii (y1, y2, y3, y4, y5, y6, y7)).set jj (x1, x2, x3, x4, x5, x6, x7)) else if (dn 21 || ((2 : Nat) == 21)) then T0.set ii (y1, y2, y3, y4, y5, y6, y7) else T0).flatMap encT)) W'
            rw [g21, g23]
            exact h
          clear g21 g23 e1 e2 e3
          obtain rfl : l = [] := hl.symm.trans (by kernel_rfl)
          clear hp hl
          refine opgoal (_) (some 18) rfl rfl fun K hK => ?_
          refine Runs.mk ?_
          simp only [putAll]
          go_simp
          refine hK _ _ ?_ hS ⟨fun h => absurd h (by decide), fun h => absurd h (by decide), fun h21 h23 => ((fun w => Keep.refl _ w) W)⟩ _ rfl rfl
          first | rfl | go_simp | simp
        · -- 3: Op.binOp BinOp.add 3 (Operand.tmp 17) (Operand.tmp 18) 3
          intro l hl vs W dn e1 e2 e3 hS hR hp
          have f21 : dn 21 = false := e3 21 (by kernel_rfl)
          have f23 : dn 23 = false := e3 23 (by kernel_rfl)
          replace hS : (fun W => W.ownsRow base TM 7 (.slice (some ⟨g, 0, none⟩) n c) n ((if (dn 23) then ((T0.set ii (y1, y2, y3, y4, y5, y6, y7)).set jj (x1, x2, x3, x4, x5, x6, x7)) else if (dn 21) then T0.set ii (y1, y2, y3, y4, y5, y6, y7) else T0).flatMap encT)) W := hS
          rw [f21, f23] at hS
          have g21 : (dn 21 || ((3 : Nat) == 21)) = false := by rw [f21]; rfl
          have g23 : (dn 23 || ((3 : Nat) == 23)) = false := by rw [f23]; rfl
          refine OpGoal.imp (S1 := fun W => W.ownsRow base TM 7 (.slice (some ⟨g, 0, none⟩) n c) n ((if false then ((T0.set ii (y1, y2, y3, y4, y5, y6, y7)).set jj (x1, x2, x3, x4, x5, x6, x7)) else if false then T0.set ii (y1, y2, y3, y4, y5, y6, y7) else T0).flatMap encT)) (fun W' h => ?_) ?_
          · show (fun W => W.ownsRow base TM 7 (.slice (some ⟨g, 0, none⟩) n c) n ((if (dn 23 || ((3 : Nat) == 23)) then ((T0.set ii (y1, y2, y3, y4, y5, y6, y7)).set jj (x1, x2, x3, x4, x5, x6, x7)) else if (dn 21 || ((3 : Nat) == 21)) then T0.set ii (y1, y2, y3, y4, y5, y6, y7) else T0).flatMap encT)) W'
            rw [g21, g23]
            exact h
          clear g21 g23 e1 e2 e3
          obtain rfl : l = [(1, 17), (2, 18)] := hl.symm.trans (by kernel_rfl)
          have p1 : vs 1 = _ := hp 1 (by decide) (by decide)
          have p2 : vs 2 = _ := hp 2 (by decide) (by decide)
          clear hp hl
          refine opgoal (_) (some 19) rfl rfl fun K hK => ?_
          have hw := HII.out
          refine Runs.mk ?_
          simp only [putAll]
          go_simp
          refine hK _ _ ?_ hS ⟨fun h => absurd h (by decide), fun h => absurd h (by decide), fun h21 h23 => ((fun w => Keep.refl _ w) W)⟩ _ rfl rfl
          first | rfl | go_simp | simp
        · -- 4: Op.move (Operand.tmp 0)
          intro l hl vs W dn e1 e2 e3 hS hR hp
          have f21 : dn 21 = dn 21 := rfl
          have f23 : dn 23 = false := e3 23 (by kernel_rfl)
          replace hS : (fun W => W.ownsRow base TM 7 (.slice (some ⟨g, 0, none⟩) n c) n ((if (dn 23) then ((T0.set ii (y1, y2, y3, y4, y5, y6, y7)).set jj (x1, x2, x3, x4, x5, x6, x7)) else if (dn 21) then T0.set ii (y1, y2, y3, y4, y5, y6, y7) else T0).flatMap encT)) W := hS
          rw [f23] at hS
          have g21 : (dn 21 || ((4 : Nat) == 21)) = dn 21 := Bool.or_false _
          have g23 : (dn 23 || ((4 : Nat) == 23)) = false := by rw [f23]; rfl
          refine OpGoal.imp (S1 := fun W => W.ownsRow base TM 7 (.slice (some ⟨g, 0, none⟩) n c) n ((if false then ((T0.set ii (y1, y2, y3, y4, y5, y6, y7)).set jj (x1, x2, x3, x4, x5, x6, x7)) else if (dn 21) then T0.set ii (y1, y2, y3, y4, y5, y6, y7) else T0).flatMap encT)) (fun W' h => ?_) ?_
          · show (fun W => W.ownsRow base TM 7 (.slice (some ⟨g, 0, none⟩) n c) n ((if (dn 23 || ((4 : Nat) == 23)) then ((T0.set ii (y1, y2, y3, y4, y5, y6, y7)).set jj (x1, x2, x3, x4, x5, x6, x7)) else if (dn 21 || ((4 : Nat) == 21)) then T0.set ii (y1, y2, y3, y4, y5, y6, y7) else T0).flatMap encT)) W'
            rw [g21, g23]
            exact h
          clear g21 g23 e1 e2 e3
          obtain rfl : l = [] := hl.symm.trans (by kernel_rfl)
          clear hp hl
          refine opgoal (_) (some 20) rfl rfl fun K hK => ?_
          refine Runs.mk ?_
          simp only [putAll]
          go_simp
          refine hK _ _ ?_ hS ⟨fun h => absurd h (by decide), fun h => absurd h (by decide), fun h21 h23 => ((fun w => Keep.refl _ w) W)⟩ _ rfl rfl
          first | rfl | go_simp | simp
        · -- 5: Op.move (Operand.tmp 2)
          intro l hl vs W dn e1 e2 e3 hS hR hp
          have f21 : dn 21 = dn 21 := rfl
          have f23 : dn 23 = false := e3 23 (by kernel_rfl)
          replace hS : (fun W => W.ownsRow base TM 7 (.slice (some ⟨g, 0, none⟩) n c) n ((if (dn 23) then ((T0.set ii (y1, y2, y3, y4, y5, y6, y7)).set jj (x1, x2, x3, x4, x5, x6, x7)) else if (dn 21) then T0.set ii (y1, y2, y3, y4, y5, y6, y7) else T0).flatMap encT)) W := hS
          rw [f23] at hS
          have g21 : (dn 21 || ((5 : Nat) == 21)) = dn 21 := Bool.or_false _
          have g23 : (dn 23 || ((5 : Nat) == 23)) = false := by rw [f23]; rfl
          refine OpGoal.imp (S1 := fun W => W.ownsRow base TM 7 (.slice (some ⟨g, 0, none⟩) n c) n ((if false then ((T0.set ii (y1, y2, y3, y4, y5, y6, y7)).set jj (x1, x2, x3, x4, x5, x6, x7)) else if (dn 21) then T0.set ii (y1, y2, y3, y4, y5, y6, y7) else T0).flatMap encT)) (fun W' h => ?_) ?_
          · show (fun W => W.ownsRow base TM 7 (.slice (some ⟨g, 0, none⟩) n c) n ((if (dn 23 || ((5 : Nat) == 23)) then ((T0.set ii (y1, y2, y3, y4, y5, y6, y7)).set jj (x1, x2, x3, x4, x5, x6, x7)) else if (dn 21 || ((5 : Nat) == 21)) then T0.set ii (y1, y2, y3, y4, y5, y6, y7) else T0).flatMap encT)) W'
            rw [g21, g23]
            exact h
          clear g21 g23 e1 e2 e3
          obtain rfl : l = [] := hl.symm.trans (by kernel_rfl)
          clear hp hl
          refine opgoal (_) (some 21) rfl rfl fun K hK => ?_
          refine Runs.mk ?_
          simp only [putAll]
          go_simp
          refine hK _ _ ?_ hS ⟨fun h => absurd h (by decide), fun h => absurd h (by decide), fun h21 h23 => ((fun w => Keep.refl _ w) W)⟩ _ rfl rfl
          first | rfl | go_simp | simp
        · -- 6: Op.move (Operand.tmp 10)
          intro l hl vs W dn e1 e2 e3 hS hR hp
          have f21 : dn 21 = dn 21 := rfl
          have f23 : dn 23 = false := e3 23 (by kernel_rfl)
          replace hS : (fun W => W.ownsRow base TM 7 (.slice (some ⟨g, 0, none⟩) n c) n ((if (dn 23) then ((T0.set ii (y1, y2, y3, y4, y5, y6, y7)).set jj (x1, x2, x3, x4, x5, x6, x7)) else if (dn 21) then T0.set ii (y1, y2, y3, y4, y5, y6, y7) else T0).flatMap encT)) W := hS
          rw [f23] at hS
          have g21 : (dn 21 || ((6 : Nat) == 21)) = dn 21 := Bool.or_false _
          have g23 : (dn 23 || ((6 : Nat) == 23)) = false := by rw [f23]; rfl
          refine OpGoal.imp (S1 := fun W => W.ownsRow base TM 7 (.slice (some ⟨g, 0, none⟩) n c) n ((if false then ((T0.set ii (y1, y2, y3, y4, y5, y6, y7)).set jj (x1, x2, x3, x4, x5, x6, x7)) else if (dn 21) then T0.set ii (y1, y2, y3, y4, y5, y6, y7) else T0).flatMap encT)) (fun W' h => ?_) ?_
          · show (fun W => W.ownsRow base TM 7 (.slice (some ⟨g, 0, none⟩) n c) n ((if (dn 23 || ((6 : Nat) == 23)) then ((T0.set ii (y1, y2, y3, y4, y5, y6, y7)).set jj (x1, x2, x3, x4, x5, x6, x7)) else if (dn 21 || ((6 : Nat) == 21)) then T0.set ii (y1, y2, y3, y4, y5, y6, y7) else T0).flatMap encT)) W'
            rw [g21, g23]
            exact h
          clear g21 g23 e1 e2 e3
          obtain rfl : l = [] := hl.symm.trans (by kernel_rfl)
          clear hp hl
          refine opgoal (_) (some 22) rfl rfl fun K hK => ?_
          refine Runs.mk ?_
          simp only [putAll]
          go_simp
          refine hK _ _ ?_ hS ⟨fun h => absurd h (by decide), fun h => absurd h (by decide), fun h21 h23 => ((fun w => Keep.refl _ w) W)⟩ _ rfl rfl
          first | rfl | go_simp | simp
        · -- 7: Op.binOp BinOp.add 3 (Operand.tmp 21) (Operand.tmp 22) 3
          intro l hl vs W dn e1 e2 e3 hS hR hp
          have f21 : dn 21 = dn 21 := rfl
          have f23 : dn 23 = false := e3 23 (by kernel_rfl)
          replace hS : (fun W => W.ownsRow base TM 7 (.slice (some ⟨g, 0, none⟩) n c) n ((if (dn 23) then ((T0.set ii (y1, y2, y3, y4, y5, y6, y7)).set jj (x1, x2, x3, x4, x5, x6, x7)) else if (dn 21) then T0.set ii (y1, y2, y3, y4, y5, y6, y7) else T0).flatMap encT)) W := hS
          rw [f23] at hS
          have g21 : (dn 21 || ((7 : Nat) == 21)) = dn 21 := Bool.or_false _
          have g23 : (dn 23 || ((7 : Nat) == 23)) = false := by rw [f23]; rfl
          refine OpGoal.imp (S1 := fun W => W.ownsRow base TM 7 (.slice (some ⟨g, 0, none⟩) n c) n ((if false then ((T0.set ii (y1, y2, y3, y4, y5, y6, y7)).set jj (x1, x2, x3, x4, x5, x6, x7)) else if (dn 21) then T0.set ii (y1, y2, y3, y4, y5, y6, y7) else T0).flatMap encT)) (fun W' h => ?_) ?_
          · show (fun W => W.ownsRow base TM 7 (.slice (some ⟨g, 0, none⟩) n c) n ((if (dn 23 || ((7 : Nat) == 23)) then ((T0.set ii (y1, y2, y3, y4, y5, y6, y7)).set jj (x1, x2, x3, x4, x5, x6, x7)) else if (dn 21 || ((7 : Nat) == 21)) then T0.set ii (y1, y2, y3, y4, y5, y6, y7) else T0).flatMap encT)) W'
            rw [g21, g23]
            exact h
          clear g21 g23 e1 e2 e3
          obtain rfl : l = [(5, 21), (6, 22)] := hl.symm.trans (by kernel_rfl)
          have p5 : vs 5 = _ := hp 5 (by decide) (by decide)
          have p6 : vs 6 = _ := hp 6 (by decide) (by decide)
          clear hp hl
          refine opgoal (_) (some 23) rfl rfl fun K hK => ?_
          have hw := HJJ.out
          refine Runs.mk ?_
          simp only [putAll]
          go_simp
          refine hK _ _ ?_ hS ⟨fun h => absurd h (by decide), fun h => absurd h (by decide), fun h21 h23 => ((fun w => Keep.refl _ w) W)⟩ _ rfl rfl
          first | rfl | go_simp | simp
        · -- 8: Op.move (Operand.tmp 0)
          intro l hl vs W dn e1 e2 e3 hS hR hp
          have f21 : dn 21 = false := e3 21 (by kernel_rfl)
          have f23 : dn 23 = false := e3 23 (by kernel_rfl)
          replace hS : (fun W => W.ownsRow base TM 7 (.slice (some ⟨g, 0, none⟩) n c) n ((if (dn 23) then ((T0.set ii (y1, y2, y3, y4, y5, y6, y7)).set jj (x1, x2, x3, x4, x5, x6, x7)) else if (dn 21) then T0.set ii (y1, y2, y3, y4, y5, y6, y7) else T0).flatMap encT)) W := hS
          rw [f21, f23] at hS
          have g21 : (dn 21 || ((8 : Nat) == 21)) = false := by rw [f21]; rfl
          have g23 : (dn 23 || ((8 : Nat) == 23)) = false := by rw [f23]; rfl
          refine OpGoal.imp (S1 := fun W => W.ownsRow base TM 7 (.slice (some ⟨g, 0, none⟩) n c) n ((if false then ((T0.set ii (y1, y2, y3, y4, y5, y6, y7)).set jj (x1, x2, x3, x4, x5, x6, x7)) else if false then T0.set ii (y1, y2, y3, y4, y5, y6, y7) else T0).flatMap encT)) (fun W' h => ?_) ?_
          · show (fun W => W.ownsRow base TM 7 (.slice (some ⟨g, 0, none⟩) n c) n ((if (dn 23 || ((8 : Nat) == 23)) then ((T0.set ii (y1, y2, y3, y4, y5, y6, y7)).set jj (x1, x2, x3, x4, x5, x6, x7)) else if (dn 21 || ((8 : Nat) == 21)) then T0.set ii (y1, y2, y3, y4, y5, y6, y7) else T0).flatMap encT)) W'
            rw [g21, g23]
            exact h
          clear g21 g23 e1 e2 e3
          obtain rfl : l = [] := hl.symm.trans (by kernel_rfl)
          clear hp hl
          refine opgoal (_) (some 24) rfl rfl fun K hK => ?_
          refine Runs.mk ?_
          simp only [putAll]
          go_simp
          refine hK _ _ ?_ hS ⟨fun h => absurd h (by decide), fun h => absurd h (by decide), fun h21 h23 => ((fun w => Keep.refl _ w) W)⟩ _ rfl rfl
          first | rfl | go_simp | simp
        · -- 9: Op.move (Operand.tmp 2)
          intro l hl vs W dn e1 e2 e3 hS hR hp
          have f21 : dn 21 = false := e3 21 (by kernel_rfl)
          have f23 : dn 23 = false := e3 23 (by kernel_rfl)
          replace hS : (fun W => W.ownsRow base TM 7 (.slice (some ⟨g, 0, none⟩) n c) n ((if (dn 23) then ((T0.set ii (y1, y2, y3, y4, y5, y6, y7)).set jj (x1, x2, x3, x4, x5, x6, x7)) else if (dn 21) then T0.set ii (y1, y2, y3, y4, y5, y6, y7) else T0).flatMap encT)) W := hS
          rw [f21, f23] at hS
          have g21 : (dn 21 || ((9 : Nat) == 21)) = false := by rw [f21]; rfl
          have g23 : (dn 23 || ((9 : Nat) == 23)) = false := by rw [f23]; rfl
          refine OpGoal.imp (S1 := fun W => W.ownsRow base TM 7 (.slice (some ⟨g, 0, none⟩) n c) n ((if false then ((T0.set ii (y1, y2, y3, y4, y5, y6, y7)).set jj (x1, x2, x3, x4, x5, x6, x7)) else if false then T0.set ii (y1, y2, y3, y4, y5, y6, y7) else T0).flatMap encT)) (fun W' h => ?_) ?_
          · show (fun W => W.ownsRow base TM 7 (.slice (some ⟨g, 0, none⟩) n c) n ((if (dn 23 || ((9 : Nat) == 23)) then ((T0.set ii (y1, y2, y3, y4, y5, y6, y7)).set jj (x1, x2, x3, x4, x5, x6, x7)) else if (dn 21 || ((9 : Nat) == 21)) then T0.set ii (y1, y2, y3, y4, y5, y6, y7) else T0).flatMap encT)) W'
            rw [g21, g23]
            exact h
          clear g21 g23 e1 e2 e3
          obtain rfl : l = [] := hl.symm.trans (by kernel_rfl)
          clear hp hl
          refine opgoal (_) (some 25) rfl rfl fun K hK => ?_
          refine Runs.mk ?_
          simp only [putAll]
          go_simp
          refine hK _ _ ?_ hS ⟨fun h => absurd h (by decide), fun h => absurd h (by decide), fun h21 h23 => ((fun w => Keep.refl _ w) W)⟩ _ rfl rfl
          first | rfl | go_simp | simp
        · -- 10: Op.move (Operand.tmp 10)
          intro l hl vs W dn e1 e2 e3 hS hR hp
          have f21 : dn 21 = false := e3 21 (by kernel_rfl)
          have f23 : dn 23 = false := e3 23 (by kernel_rfl)
          replace hS : (fun W => W.ownsRow base TM 7 (.slice (some ⟨g, 0, none⟩) n c) n ((if (dn 23) then ((T0.set ii (y1, y2, y3, y4, y5, y6, y7)).set jj (x1, x2, x3, x4, x5, x6, x7)) else if (dn 21) then T0.set ii (y1, y2, y3, y4, y5, y6, y7) else T0).flatMap encT)) W := hS
          rw [f21, f23] at hS
          have g21 : (dn 21 || ((10 : Nat) == 21)) = false := by rw [f21]; rfl
          have g23 : (dn 23 || ((10 : Nat) == 23)) = false := by rw [f23]; rfl
          refine OpGoal.imp (S1 := fun W => W.ownsRow base TM 7 (.slice (some ⟨g, 0, none⟩) n c) n ((if false then ((T0.set ii (y1, y2, y3, y4, y5, y6, y7)).set jj (x1, x2, x3, x4, x5, x6, x7)) else if false then T0.set ii (y1, y2, y3, y4, y5, y6, y7) else T0).flatMap encT)) (fun W' h => ?_) ?_
          · show (fun W => W.ownsRow base TM 7 (.slice (some ⟨g, 0, none⟩) n c) n ((if (dn 23 || ((10 : Nat) == 23)) then ((T0.set ii (y1, y2, y3, y4, y5, y6, y7)).set jj (x1, x2, x3, x4, x5, x6, x7)) else if (dn 21 || ((10 : Nat) == 21)) then T0.set ii (y1, y2, y3, y4, y5, y6, y7) else T0).flatMap encT)) W'
            rw [g21, g23]
            exact h
          clear g21 g23 e1 e2 e3
          obtain rfl : l = [] := hl.symm.trans (by kernel_rfl)
          clear hp hl
          refine opgoal (_) (some 26) rfl rfl fun K hK => ?_
          refine Runs.mk ?_
          simp only [putAll]
          go_simp
          refine hK _ _ ?_ hS ⟨fun h => absurd h (by decide), fun h => absurd h (by decide), fun h21 h23 => ((fun w => Keep.refl _ w) W)⟩ _ rfl rfl
          first | rfl | go_simp | simp
        · -- 11: Op.binOp BinOp.add 3 (Operand.tmp 25) (Operand.tmp 26) 3
          intro l hl vs W dn e1 e2 e3 hS hR hp
          have f21 : dn 21 = false := e3 21 (by kernel_rfl)
          have f23 : dn 23 = false := e3 23 (by kernel_rfl)
          replace hS : (fun W => W.ownsRow base TM 7 (.slice (some ⟨g, 0, none⟩) n c) n ((if (dn 23) then ((T0.set ii (y1, y2, y3, y4, y5, y6, y7)).set jj (x1, x2, x3, x4, x5, x6, x7)) else if (dn 21) then T0.set ii (y1, y2, y3, y4, y5, y6, y7) else T0).flatMap encT)) W := hS
          rw [f21, f23] at hS
          have g21 : (dn 21 || ((11 : Nat) == 21)) = false := by rw [f21]; rfl
          have g23 : (dn 23 || ((11 : Nat) == 23)) = false := by rw [f23]; rfl
          refine OpGoal.imp (S1 := fun W => W.ownsRow base TM 7 (.slice (some ⟨g, 0, none⟩) n c) n ((if false then ((T0.set ii (y1, y2, y3, y4, y5, y6, y7)).set jj (x1, x2, x3, x4, x5, x6, x7)) else if false then T0.set ii (y1, y2, y3, y4, y5, y6, y7) else T0).flatMap encT)) (fun W' h => ?_) ?_
          · show (fun W => W.ownsRow base TM 7 (.slice (some ⟨g, 0, none⟩) n c) n ((if (dn 23 || ((11 : Nat) == 23)) then ((T0.set ii (y1, y2, y3, y4, y5, y6, y7)).set jj (x1, x2, x3, x4, x5, x6, x7)) else if (dn 21 || ((11 : Nat) == 21)) then T0.set ii (y1, y2, y3, y4, y5, y6, y7) else T0).flatMap encT)) W'
            rw [g21, g23]
            exact h
          clear g21 g23 e1 e2 e3
          obtain rfl : l = [(9, 25), (10, 26)] := hl.symm.trans (by kernel_rfl)
          have p9 : vs 9 = _ := hp 9 (by decide) (by decide)
          have p10 : vs 10 = _ := hp 10 (by decide) (by decide)
          clear hp hl
          refine opgoal (_) (some 27) rfl rfl fun K hK => ?_
          have hw := HJJ.out
          refine Runs.mk ?_
          simp only [putAll]
          go_simp
          refine hK _ _ ?_ hS ⟨fun h => absurd h (by decide), fun h => absurd h (by decide), fun h21 h23 => ((fun w => Keep.refl _ w) W)⟩ _ rfl rfl
          first | rfl | go_simp | simp
        · -- 12: Op.indexAddr 61 (Operand.tmp 24) (Operand.tmp 27)
          intro l hl vs W dn e1 e2 e3 hS hR hp
          have f21 : dn 21 = false := e3 21 (by kernel_rfl)
          have f23 : dn 23 = false := e3 23 (by kernel_rfl)
          replace hS : (fun W => W.ownsRow base TM 7 (.slice (some ⟨g, 0, none⟩) n c) n ((if (dn 23) then ((T0.set ii (y1, y2, y3, y4, y5, y6, y7)).set jj (x1, x2, x3, x4, x5, x6, x7)) else if (dn 21) then T0.set ii (y1, y2, y3, y4, y5, y6, y7) else T0).flatMap encT)) W := hS
          rw [f21, f23] at hS
          have g21 : (dn 21 || ((12 : Nat) == 21)) = false := by rw [f21]; rfl
          have g23 : (dn 23 || ((12 : Nat) == 23)) = false := by rw [f23]; rfl
          refine OpGoal.imp (S1 := fun W => W.ownsRow base TM 7 (.slice (some ⟨g, 0, none⟩) n c) n ((if false then ((T0.set ii (y1, y2, y3, y4, y5, y6, y7)).set jj (x1, x2, x3, x4, x5, x6, x7)) else if false then T0.set ii (y1, y2, y3, y4, y5, y6, y7) else T0).flatMap encT)) (fun W' h => ?_) ?_
          · show (fun W => W.ownsRow base TM 7 (.slice (some ⟨g, 0, none⟩) n c) n ((if (dn 23 || ((12 : Nat) == 23)) then ((T0.set ii (y1, y2, y3, y4, y5, y6, y7)).set jj (x1, x2, x3, x4, x5, x6, x7)) else if (dn 21 || ((12 : Nat) == 21)) then T0.set ii (y1, y2, y3, y4, y5, y6, y7) else T0).flatMap encT)) W'
            rw [g21, g23]
            exact h
          clear g21 g23 e1 e2 e3
          obtain rfl : l = [(8, 24), (9, 25), (10, 26), (11, 27)] := hl.symm.trans (by kernel_rfl)
          have p8 : vs 8 = _ := hp 8 (by decide) (by decide)
          have p11 : vs 11 = _ := hp 11 (by decide) (by decide)
          clear hp hl
          refine opgoal (_) (some 28) rfl rfl fun K hK => ?_
          refine Runs.mk ?_
          simp only [putAll]
          go_simp
          refine hK _ _ ?_ hS ⟨fun h => absurd h (by decide), fun h => absurd h (by decide), fun h21 h23 => ((fun w => Keep.refl _ w) W)⟩ _ rfl rfl
          first | rfl | go_simp | simp
        · -- 13: Op.load 66 (Operand.tmp 28)
          intro l hl vs W dn e1 e2 e3 hS hR hp
          have f21 : dn 21 = false := e3 21 (by kernel_rfl)
          have f23 : dn 23 = false := e3 23 (by kernel_rfl)
          replace hS : (fun W => W.ownsRow base TM 7 (.slice (some ⟨g, 0, none⟩) n c) n ((if (dn 23) then ((T0.set ii (y1, y2, y3, y4, y5, y6, y7)).set jj (x1, x2, x3, x4, x5, x6, x7)) else if (dn 21) then T0.set ii (y1, y2, y3, y4, y5, y6, y7) else T0).flatMap encT)) W := hS
          rw [f21, f23] at hS
          have g21 : (dn 21 || ((13 : Nat) == 21)) = false := by rw [f21]; rfl
          have g23 : (dn 23 || ((13 : Nat) == 23)) = false := by rw [f23]; rfl
          refine OpGoal.imp (S1 := fun W => W.ownsRow base TM 7 (.slice (some ⟨g, 0, none⟩) n c) n ((if false then ((T0.set ii (y1, y2, y3, y4, y5, y6, y7)).set jj (x1, x2, x3, x4, x5, x6, x7)) else if false then T0.set ii (y1, y2, y3, y4, y5, y6, y7) else T0).flatMap encT)) (fun W' h => ?_) ?_
          · show (fun W => W.ownsRow base TM 7 (.slice (some ⟨g, 0, none⟩) n c) n ((if (dn 23 || ((13 : Nat) == 23)) then ((T0.set ii (y1, y2, y3, y4, y5, y6, y7)).set jj (x1, x2, x3, x4, x5, x6, x7)) else if (dn 21 || ((13 : Nat) == 21)) then T0.set ii (y1, y2, y3, y4, y5, y6, y7) else T0).flatMap encT)) W'
            rw [g21, g23]
            exact h
          clear g21 g23 e1 e2 e3
          obtain rfl : l = [(8, 24), (9, 25), (10, 26), (11, 27), (12, 28)] := hl.symm.trans (by kernel_rfl)
          have p12 : vs 12 = _ := hp 12 (by decide) (by decide)
          clear hp hl
          refine opgoal (_) (some 29) rfl rfl fun K hK => ?_
          obtain ⟨e0, e1, e2, e3, e4, e5, e6⟩ := HCJ.out W hS
          refine Runs.mk ?_
          simp only [putAll]
          go_simp
          refine hK _ _ ?_ hS ⟨fun h => absurd h (by decide), fun h => absurd h (by decide), fun h21 h23 => ((fun w => Keep.refl _ w) W)⟩ _ rfl rfl
          first | rfl | go_simp | simp
        · -- 14: Op.move (Operand.tmp 0)
          intro l hl vs W dn e1 e2 e3 hS hR hp
          have f21 : dn 21 = false := e3 21 (by kernel_rfl)
          have f23 : dn 23 = false := e3 23 (by kernel_rfl)
          replace hS : (fun W => W.ownsRow base TM 7 (.slice (some ⟨g, 0, none⟩) n c) n ((if (dn 23) then ((T0.set ii (y1, y2, y3, y4, y5, y6, y7)).set jj (x1, x2, x3, x4, x5, x6, x7)) else if (dn 21) then T0.set ii (y1, y2, y3, y4, y5, y6, y7) else T0).flatMap encT)) W := hS
          rw [f21, f23] at hS
          have g21 : (dn 21 || ((14 : Nat) == 21)) = false := by rw [f21]; rfl
          have g23 : (dn 23 || ((14 : Nat) == 23)) = false := by rw [f23]; rfl
          refine OpGoal.imp (S1 := fun W => W.ownsRow base TM 7 (.slice (some ⟨g, 0, none⟩) n c) n ((if false then ((T0.set ii (y1, y2, y3, y4, y5, y6, y7)).set jj (x1, x2, x3, x4, x5, x6, x7)) else if false then T0.set ii (y1, y2, y3, y4, y5, y6, y7) else T0).flatMap encT)) (fun W' h => ?_) ?_
          · show (fun W => W.ownsRow base TM 7 (.slice (some ⟨g, 0, none⟩) n c) n ((if (dn 23 || ((14 : Nat) == 23)) then ((T0.set ii (y1, y2, y3, y4, y5, y6, y7)).set jj (x1, x2, x3, x4, x5, x6, x7)) else if (dn 21 || ((14 : Nat) == 21)) then T0.set ii (y1, y2, y3, y4, y5, y6, y7) else T0).flatMap encT)) W'
            rw [g21, g23]
            exact h
          clear g21 g23 e1 e2 e3
          obtain rfl : l = [] := hl.symm.trans (by kernel_rfl)
          clear hp hl
          refine opgoal (_) (some 30) rfl rfl fun K hK => ?_
          refine Runs.mk ?_
          simp only [putAll]
          go_simp
          refine hK _ _ ?_ hS ⟨fun h => absurd h (by decide), fun h => absurd h (by decide), fun h21 h23 => ((fun w => Keep.refl _ w) W)⟩ _ rfl rfl
          first | rfl | go_simp | simp
        · -- 15: Op.move (Operand.tmp 1)
          intro l hl vs W dn e1 e2 e3 hS hR hp
          have f21 : dn 21 = false := e3 21 (by kernel_rfl)
          have f23 : dn 23 = false := e3 23 (by kernel_rfl)
          replace hS : (fun W => W.ownsRow base TM 7 (.slice (some ⟨g, 0, none⟩) n c) n ((if (dn 23) then ((T0.set ii (y1, y2, y3, y4, y5, y6, y7)).set jj (x1, x2, x3, x4, x5, x6, x7)) else if (dn 21) then T0.set ii (y1, y2, y3, y4, y5, y6, y7) else T0).flatMap encT)) W := hS
          rw [f21, f23] at hS
          have g21 : (dn 21 || ((15 : Nat) == 21)) = false := by rw [f21]; rfl
          have g23 : (dn 23 || ((15 : Nat) == 23)) = false := by rw [f23]; rfl
          refine OpGoal.imp (S1 := fun W => W.ownsRow base TM 7 (.slice (some ⟨g, 0, none⟩) n c) n ((if false then ((T0.set ii (y1, y2, y3, y4, y5, y6, y7)).set jj (x1, x2, x3, x4, x5, x6, x7)) else if false then T0.set ii (y1, y2, y3, y4, y5, y6, y7) else T0).flatMap encT)) (fun W' h => ?_) ?_
          · show (fun W => W.ownsRow base TM 7 (.slice (some ⟨g, 0, none⟩) n c) n ((if (dn 23 || ((15 : Nat) == 23)) then ((T0.set ii (y1, y2, y3, y4, y5, y6, y7)).set jj (x1, x2, x3, x4, x5, x6, x7)) else if (dn 21 || ((15 : Nat) == 21)) then T0.set ii (y1, y2, y3, y4, y5, y6, y7) else T0).flatMap encT)) W'
            rw [g21, g23]
            exact h
          clear g21 g23 e1 e2 e3
          obtain rfl : l = [] := hl.symm.trans (by kernel_rfl)
          clear hp hl
          refine opgoal (_) (some 31) rfl rfl fun K hK => ?_
          refine Runs.mk ?_
          simp only [putAll]
          go_simp
          refine hK _ _ ?_ hS ⟨fun h => absurd h (by decide), fun h => absurd h (by decide), fun h21 h23 => ((fun w => Keep.refl _ w) W)⟩ _ rfl rfl
          first | rfl | go_simp | simp
        · -- 16: Op.move (Operand.tmp 10)
          intro l hl vs W dn e1 e2 e3 hS hR hp
          have f21 : dn 21 = false := e3 21 (by kernel_rfl)
          have f23 : dn 23 = false := e3 23 (by kernel_rfl)
          replace hS : (fun W => W.ownsRow base TM 7 (.slice (some ⟨g, 0, none⟩) n c) n ((if (dn 23) then ((T0.set ii (y1, y2, y3, y4, y5, y6, y7)).set jj (x1, x2, x3, x4, x5, x6, x7)) else if (dn 21) then T0.set ii (y1, y2, y3, y4, y5, y6, y7) else T0).flatMap encT)) W := hS
          rw [f21, f23] at hS
          have g21 : (dn 21 || ((16 : Nat) == 21)) = false := by rw [f21]; rfl
          have g23 : (dn 23 || ((16 : Nat) == 23)) = false := by rw [f23]; rfl
          refine OpGoal.imp (S1 := fun W => W.ownsRow base TM 7 (.slice (some ⟨g, 0, none⟩) n c) n ((if false then ((T0.set ii (y1, y2, y3, y4, y5, y6, y7)).set jj (x1, x2, x3, x4, x5, x6, x7)) else if false then T0.set ii (y1, y2, y3, y4, y5, y6, y7) else T0).flatMap encT)) (fun W' h => ?_) ?_
          · show (fun W => W.ownsRow base TM 7 (.slice (some ⟨g, 0, none⟩) n c) n ((if (dn 23 || ((16 : Nat) == 23)) then ((T0.set ii (y1, y2, y3, y4, y5, y6, y7)).set jj (x1, x2, x3, x4, x5, x6, x7)) else if (dn 21 || ((16 : Nat) == 21)) then T0.set ii (y1, y2, y3, y4, y5, y6, y7) else T0).flatMap encT)) W'
            rw [g21, g23]
            exact h
          clear g21 g23 e1 e2 e3
          obtain rfl : l = [] := hl.symm.trans (by kernel_rfl)
          clear hp hl
          refine opgoal (_) (some 32) rfl rfl fun K hK => ?_
          refine Runs.mk ?_
          simp only [putAll]
          go_simp
          refine hK _ _ ?_ hS ⟨fun h => absurd h (by decide), fun h => absurd h (by decide), fun h21 h23 => ((fun w => Keep.refl _ w) W)⟩ _ rfl rfl
          first | rfl | go_simp | simp
        · -- 17: Op.binOp BinOp.add 3 (Operand.tmp 31) (Operand.tmp 32) 3
          intro l hl vs W dn e1 e2 e3 hS hR hp
          have f21 : dn 21 = false := e3 21 (by kernel_rfl)
          have f23 : dn 23 = false := e3 23 (by kernel_rfl)
          replace hS : (fun W => W.ownsRow base TM 7 (.slice (some ⟨g, 0, none⟩) n c) n ((if (dn 23) then ((T0.set ii (y1, y2, y3, y4, y5, y6, y7)).set jj (x1, x2, x3, x4, x5, x6, x7)) else if (dn 21) then T0.set ii (y1, y2, y3, y4, y5, y6, y7) else T0).flatMap encT)) W := hS
          rw [f21, f23] at hS
          have g21 : (dn 21 || ((17 : Nat) == 21)) = false := by rw [f21]; rfl
          have g23 : (dn 23 || ((17 : Nat) == 23)) = false := by rw [f23]; rfl
          refine OpGoal.imp (S1 := fun W => W.ownsRow base TM 7 (.slice (some ⟨g, 0, none⟩) n c) n ((if false then ((T0.set ii (y1, y2, y3, y4, y5, y6, y7)).set jj (x1, x2, x3, x4, x5, x6, x7)) else if false then T0.set ii (y1, y2, y3, y4, y5, y6, y7) else T0).flatMap encT)) (fun W' h => ?_) ?_
          · show (fun W => W.ownsRow base TM 7 (.slice (some ⟨g, 0, none⟩) n c) n ((if (dn 23 || ((17 : Nat) == 23)) then ((T0.set ii (y1, y2, y3, y4, y5, y6, y7)).set jj (x1, x2, x3, x4, x5, x6, x7)) else if (dn 21 || ((17 : Nat) == 21)) then T0.set ii (y1, y2, y3, y4, y5, y6, y7) else T0).flatMap encT)) W'
            rw [g21, g23]
            exact h
          clear g21 g23 e1 e2 e3
          obtain rfl : l = [(15, 31), (16, 32)] := hl.symm.trans (by kernel_rfl)
          have p15 : vs 15 = _ := hp 15 (by decide) (by decide)
          have p16 : vs 16 = _ := hp 16 (by decide) (by decide)
          clear hp hl
          refine opgoal (_) (some 33) rfl rfl fun K hK => ?_
          have hw := HII.out
          refine Runs.mk ?_
          simp only [putAll]
          go_simp
          refine hK _ _ ?_ hS ⟨fun h => absurd h (by decide), fun h => absurd h (by decide), fun h21 h23 => ((fun w => Keep.refl _ w) W)⟩ _ rfl rfl
          first | rfl | go_simp | simp
        · -- 18: Op.indexAddr 61 (Operand.tmp 30) (Operand.tmp 33)
          intro l hl vs W dn e1 e2 e3 hS hR hp
          have f21 : dn 21 = false := e3 21 (by kernel_rfl)
          have f23 : dn 23 = false := e3 23 (by kernel_rfl)
          replace hS : (fun W => W.ownsRow base TM 7 (.slice (some ⟨g, 0, none⟩) n c) n ((if (dn 23) then ((T0.set ii (y1, y2, y3, y4, y5, y6, y7)).set jj (x1, x2, x3, x4, x5, x6, x7)) else if (dn 21) then T0.set ii (y1, y2, y3, y4, y5, y6, y7) else T0).flatMap encT)) W := hS
          rw [f21, f23] at hS
          have g21 : (dn 21 || ((18 : Nat) == 21)) = false := by rw [f21]; rfl
          have g23 : (dn 23 || ((18 : Nat) == 23)) = false := by rw [f23]; rfl
          refine OpGoal.imp (S1 := fun W => W.ownsRow base TM 7 (.slice (some ⟨g, 0, none⟩) n c) n ((if false then ((T0.set ii (y1, y2, y3, y4, y5, y6, y7)).set jj (x1, x2, x3, x4, x5, x6, x7)) else if false then T0.set ii (y1, y2, y3, y4, y5, y6, y7) else T0).flatMap encT)) (fun W' h => ?_) ?_
          · show (fun W => W.ownsRow base TM 7 (.slice (some ⟨g, 0, none⟩) n c) n ((if (dn 23 || ((18 : Nat) == 23)) then ((T0.set ii (y1, y2, y3, y4, y5, y6, y7)).set jj (x1, x2, x3, x4, x5, x6, x7)) else if (dn 21 || ((18 : Nat) == 21)) then T0.set ii (y1, y2, y3, y4, y5, y6, y7) else T0).flatMap encT)) W'
            rw [g21, g23]
            exact h
          clear g21 g23 e1 e2 e3
          obtain rfl : l = [(14, 30), (15, 31), (16, 32), (17, 33)] := hl.symm.trans (by kernel_rfl)
          have p14 : vs 14 = _ := hp 14 (by decide) (by decide)
          have p17 : vs 17 = _ := hp 17 (by decide) (by decide)
          clear hp hl
          refine opgoal (_) (some 34) rfl rfl fun K hK => ?_
          refine Runs.mk ?_
          simp only [putAll]
          go_simp
          refine hK _ _ ?_ hS ⟨fun h => absurd h (by decide), fun h => absurd h (by decide), fun h21 h23 => ((fun w => Keep.refl _ w) W)⟩ _ rfl rfl
          first | rfl | go_simp | simp
        · -- 19: Op.load 66 (Operand.tmp 34)
          intro l hl vs W dn e1 e2 e3 hS hR hp
          have f21 : dn 21 = false := e3 21 (by kernel_rfl)
          have f23 : dn 23 = false := e3 23 (by kernel_rfl)
          replace hS : (fun W => W.ownsRow base TM 7 (.slice (some ⟨g, 0, none⟩) n c) n ((if (dn 23) then ((T0.set ii (y1, y2, y3, y4, y5, y6, y7)).set jj (x1, x2, x3, x4, x5, x6, x7)) else if (dn 21) then T0.set ii (y1, y2, y3, y4, y5, y6, y7) else T0).flatMap encT)) W := hS
          rw [f21, f23] at hS
          have g21 : (dn 21 || ((19 : Nat) == 21)) = false := by rw [f21]; rfl
          have g23 : (dn 23 || ((19 : Nat) == 23)) = false := by rw [f23]; rfl
          refine OpGoal.imp (S1 := fun W => W.ownsRow base TM 7 (.slice (some ⟨g, 0, none⟩) n c) n ((if false then ((T0.set ii (y1, y2, y3, y4, y5, y6, y7)).set jj (x1, x2, x3, x4, x5, x6, x7)) else if false then T0.set ii (y1, y2, y3, y4, y5, y6, y7) else T0).flatMap encT)) (fun W' h => ?_) ?_
          · show (fun W => W.ownsRow base TM 7 (.slice (some ⟨g, 0, none⟩) n c) n ((if (dn 23 || ((19 : Nat) == 23)) then ((T0.set ii (y1, y2, y3, y4, y5, y6, y7)).set jj (x1, x2, x3, x4, x5, x6, x7)) else if (dn 21 || ((19 : Nat) == 21)) then T0.set ii (y1, y2, y3, y4, y5, y6, y7) else T0).flatMap encT)) W'
            rw [g21, g23]
            exact h
          clear g21 g23 e1 e2 e3
          obtain rfl : l = [(14, 30), (15, 31), (16, 32), (17, 33), (18, 34)] := hl.symm.trans (by kernel_rfl)
          have p18 : vs 18 = _ := hp 18 (by decide) (by decide)
          clear hp hl
          refine opgoal (_) (some 35) rfl rfl fun K hK => ?_
          obtain ⟨e0, e1, e2, e3, e4, e5, e6⟩ := HCI.out W hS
          refine Runs.mk ?_
          simp only [putAll]
          go_simp
          refine hK _ _ ?_ hS ⟨fun h => absurd h (by decide), fun h => absurd h (by decide), fun h21 h23 => ((fun w => Keep.refl _ w) W)⟩ _ rfl rfl
          first | rfl | go_simp | simp
        · -- 20: Op.indexAddr 61 (Operand.tmp 16) (Operand.tmp 19)
          intro l hl vs W dn e1 e2 e3 hS hR hp
          have f21 : dn 21 = false := e3 21 (by kernel_rfl)
          have f23 : dn 23 = false := e3 23 (by kernel_rfl)
          replace hS : (fun W => W.ownsRow base TM 7 (.slice (some ⟨g, 0, none⟩) n c) n ((if (dn 23) then ((T0.set ii (y1, y2, y3, y4, y5, y6, y7)).set jj (x1, x2, x3, x4, x5, x6, x7)) else if (dn 21) then T0.set ii (y1, y2, y3, y4, y5, y6, y7) else T0).flatMap encT)) W := hS
          rw [f21, f23] at hS
          have g21 : (dn 21 || ((20 : Nat) == 21)) = false := by rw [f21]; rfl
          have g23 : (dn 23 || ((20 : Nat) == 23)) = false := by rw [f23]; rfl
          refine OpGoal.imp (S1 := fun W => W.ownsRow base TM 7 (.slice (some ⟨g, 0, none⟩) n c) n ((if false then ((T0.set ii (y1, y2, y3, y4, y5, y6, y7)).set jj (x1, x2, x3, x4, x5, x6, x7)) else if false then T0.set ii (y1, y2, y3, y4, y5, y6, y7) else T0).flatMap encT)) (fun W' h => ?_) ?_
          · show (fun W => W.ownsRow base TM 7 (.slice (some ⟨g, 0, none⟩) n c) n ((if (dn 23 || ((20 : Nat) == 23)) then ((T0.set ii (y1, y2, y3, y4, y5, y6, y7)).set jj (x1, x2, x3, x4, x5, x6, x7)) else if (dn 21 || ((20 : Nat) == 21)) then T0.set ii (y1, y2, y3, y4, y5, y6, y7) else T0).flatMap encT)) W'
            rw [g21, g23]
            exact h
          clear g21 g23 e1 e2 e3
          obtain rfl : l = [(0, 16), (1, 17), (2, 18), (3, 19), (8, 24), (9, 25), (10, 26), (11, 27), (12, 28), (13, 29), (14, 30), (15, 31), (16, 32), (17, 33), (18, 34), (19, 35)] := hl.symm.trans (by kernel_rfl)
          have p0 : vs 0 = _ := hp 0 (by decide) (by decide)
          have p3 : vs 3 = _ := hp 3 (by decide) (by decide)
          clear hp hl
          refine opgoal (_) (some 36) rfl rfl fun K hK => ?_
          refine Runs.mk ?_
          simp only [putAll]
          go_simp
          refine hK _ _ ?_ hS ⟨fun h => absurd h (by decide), fun h => absurd h (by decide), fun h21 h23 => ((fun w => Keep.refl _ w) W)⟩ _ rfl rfl
          first | rfl | go_simp | simp
        · -- 21: Op.store 66 (Operand.tmp 36) (Operand.tmp 29)
          intro l hl vs W dn e1 e2 e3 hS hR hp
          have f21 : dn 21 = false := e1
          have f23 : dn 23 = false := e3 23 (by kernel_rfl)
          replace hS : (fun W => W.ownsRow base TM 7 (.slice (some ⟨g, 0, none⟩) n c) n ((if (dn 23) then ((T0.set ii (y1, y2, y3, y4, y5, y6, y7)).set jj (x1, x2, x3, x4, x5, x6, x7)) else if (dn 21) then T0.set ii (y1, y2, y3, y4, y5, y6, y7) else T0).flatMap encT)) W := hS
          rw [f21, f23] at hS
          have g21 : (dn 21 || ((21 : Nat) == 21)) = true := by rw [f21]; rfl
          have g23 : (dn 23 || ((21 : Nat) == 23)) = false := by rw [f23]; rfl
          refine OpGoal.imp (S1 := fun W => W.ownsRow base TM 7 (.slice (some ⟨g, 0, none⟩) n c) n ((if false then ((T0.set ii (y1, y2, y3, y4, y5, y6, y7)).set jj (x1, x2, x3, x4, x5, x6, x7)) else if true then T0.set ii (y1, y2, y3, y4, y5, y6, y7) else T0).flatMap encT)) (fun W' h => ?_) ?_
          · show (fun W => W.ownsRow base TM 7 (.slice (some ⟨g, 0, none⟩) n c) n ((if (dn 23 || ((21 : Nat) == 23)) then ((T0.set ii (y1, y2, y3, y4, y5, y6, y7)).set jj (x1, x2, x3, x4, x5, x6, x7)) else if (dn 21 || ((21 : Nat) == 21)) then T0.set ii (y1, y2, y3, y4, y5, y6, y7) else T0).flatMap encT)) W'
            rw [g21, g23]
            exact h
          clear g21 g23 e1 e2 e3
          obtain rfl : l = [(0, 16), (1, 17), (2, 18), (3, 19), (8, 24), (9, 25), (10, 26), (11, 27), (12, 28), (13, 29), (14, 30), (15, 31), (16, 32), (17, 33), (18, 34), (19, 35), (20, 36)] := hl.symm.trans (by kernel_rfl)
          have p13 : vs 13 = _ := hp 13 (by decide) (by decide)
          have p20 : vs 20 = _ := hp 20 (by decide) (by decide)
          clear hp hl
          refine opgoal ({ dst := none, op := Op.store 66 (Operand.tmp 36) (Operand.tmp 29), type := 0, pos := "zsortanyfunc.go:331", after := #[{ on := 20, ground := Ground.data }, { on := 13, ground := Ground.data }, { on := 0, ground := Ground.phase }, { on := 1, ground := Ground.phase }, { on := 2, ground := Ground.phase }, { on := 3, ground := Ground.phase }, { on := 4, ground := Ground.textOnly Departure.lateStores }, { on := 5, ground := Ground.textOnly Departure.lateStores }, { on := 6, ground := Ground.textOnly Departure.lateStores }, { on := 7, ground := Ground.textOnly Departure.lateStores }, { on := 8, ground := Ground.phase }, { on := 9, ground := Ground.phase }, { on := 10, ground := Ground.phase }, { on := 11, ground := Ground.phase }, { on := 12, ground := Ground.phase }, { on := 13, ground := Ground.phase }, { on := 14, ground := Ground.textOnly Departure.lateStores }, { on := 15, ground := Ground.textOnly Departure.lateStores }, { on := 16, ground := Ground.textOnly Departure.lateStores }, { on := 17, ground := Ground.textOnly Departure.lateStores }, { on := 18, ground := Ground.textOnly Departure.lateStoresUnsure }, { on := 19, ground := Ground.phase }], guard := none }) (none) rfl rfl fun K hK => ?_
          obtain ⟨cur, hcur, hcs, hput⟩ := own_setT hS HL0.out hii (y1, y2, y3, y4, y5, y6, y7)
          refine runs_store_blk (wanted_none rfl) TM (.tmp 36) (.tmp 29) rfl g (ii * 7) (eval_putAll (j := 20) (by simp) (by decide) (by intro k hk; simpa using hk) p20) TM cur (.agg #[.int .i64 y1, .int .i64 y2, .int .i64 y3, .int .i64 y4, .int .i64 y5, .int .i64 y6, .int .i64 y7]) (eval_putAll (j := 13) (by simp) (by decide) (by intro k hk; simpa using hk) p13) hcur (by kernel_rfl) hcs (by simp [Value.cells, Value.oneCell']) _ rfl ?_
          intro w5 hg5 hu5
          have hkk := keep_upd hu5
          exact hK undef _ trivial (hput w5 hg5) ⟨(fun _ => hkk), (fun h => absurd h (by decide)), fun h1 h2 => absurd rfl h1⟩ _ put_dfs rfl
        · -- 22: Op.indexAddr 61 (Operand.tmp 20) (Operand.tmp 23)
          intro l hl vs W dn e1 e2 e3 hS hR hp
          have f21 : dn 21 = true := e2 21 (by kernel_rfl)
          have f23 : dn 23 = false := e3 23 (by kernel_rfl)
          replace hS : (fun W => W.ownsRow base TM 7 (.slice (some ⟨g, 0, none⟩) n c) n ((if (dn 23) then ((T0.set ii (y1, y2, y3, y4, y5, y6, y7)).set jj (x1, x2, x3, x4, x5, x6, x7)) else if (dn 21) then T0.set ii (y1, y2, y3, y4, y5, y6, y7) else T0).flatMap encT)) W := hS
          rw [f21, f23] at hS
          have g21 : (dn 21 || ((22 : Nat) == 21)) = true := by rw [f21]; rfl
          have g23 : (dn 23 || ((22 : Nat) == 23)) = false := by rw [f23]; rfl
          refine OpGoal.imp (S1 := fun W => W.ownsRow base TM 7 (.slice (some ⟨g, 0, none⟩) n c) n ((if false then ((T0.set ii (y1, y2, y3, y4, y5, y6, y7)).set jj (x1, x2, x3, x4, x5, x6, x7)) else if true then T0.set ii (y1, y2, y3, y4, y5, y6, y7) else T0).flatMap encT)) (fun W' h => ?_) ?_
          · show (fun W => W.ownsRow base TM 7 (.slice (some ⟨g, 0, none⟩) n c) n ((if (dn 23 || ((22 : Nat) == 23)) then ((T0.set ii (y1, y2, y3, y4, y5, y6, y7)).set jj (x1, x2, x3, x4, x5, x6, x7)) else if (dn 21 || ((22 : Nat) == 21)) then T0.set ii (y1, y2, y3, y4, y5, y6, y7) else T0).flatMap encT)) W'
            rw [g21, g23]
            exact h
          clear g21 g23 e1 e2 e3
          obtain rfl : l = [(0, 16), (1, 17), (2, 18), (3, 19), (4, 20), (5, 21), (6, 22), (7, 23), (8, 24), (9, 25), (10, 26), (11, 27), (12, 28), (13, 29), (14, 30), (15, 31), (16, 32), (17, 33), (18, 34), (19, 35), (20, 36)] := hl.symm.trans (by kernel_rfl)
          have p4 : vs 4 = _ := hp 4 (by decide) (by decide)
          have p7 : vs 7 = _ := hp 7 (by decide) (by decide)
          clear hp hl
          refine opgoal (_) (some 37) rfl rfl fun K hK => ?_
          refine Runs.mk ?_
          simp only [putAll]
          go_simp
          refine hK _ _ ?_ hS ⟨fun h => absurd h (by decide), fun h => absurd h (by decide), fun h21 h23 => ((fun w => Keep.refl _ w) W)⟩ _ rfl rfl
          first | rfl | go_simp | simp
        · -- 23: Op.store 66 (Operand.tmp 37) (Operand.tmp 35)
          intro l hl vs W dn e1 e2 e3 hS hR hp
          have f21 : dn 21 = true := e2 21 (by kernel_rfl)
          have f23 : dn 23 = false := e1
          replace hS : (fun W => W.ownsRow base TM 7 (.slice (some ⟨g, 0, none⟩) n c) n ((if (dn 23) then ((T0.set ii (y1, y2, y3, y4, y5, y6, y7)).set jj (x1, x2, x3, x4, x5, x6, x7)) else if (dn 21) then T0.set ii (y1, y2, y3, y4, y5, y6, y7) else T0).flatMap encT)) W := hS
          rw [f21, f23] at hS
          have g21 : (dn 21 || ((23 : Nat) == 21)) = true := by rw [f21]; rfl
          have g23 : (dn 23 || ((23 : Nat) == 23)) = true := by rw [f23]; rfl
          refine OpGoal.imp (S1 := fun W => W.ownsRow base TM 7 (.slice (some ⟨g, 0, none⟩) n c) n ((if true then ((T0.set ii (y1, y2, y3, y4, y5, y6, y7)).set jj (x1, x2, x3, x4, x5, x6, x7)) else if true then T0.set ii (y1, y2, y3, y4, y5, y6, y7) else T0).flatMap encT)) (fun W' h => ?_) ?_
          · show (fun W => W.ownsRow base TM 7 (.slice (some ⟨g, 0, none⟩) n c) n ((if (dn 23 || ((23 : Nat) == 23)) then ((T0.set ii (y1, y2, y3, y4, y5, y6, y7)).set jj (x1, x2, x3, x4, x5, x6, x7)) else if (dn 21 || ((23 : Nat) == 21)) then T0.set ii (y1, y2, y3, y4, y5, y6, y7) else T0).flatMap encT)) W'
            rw [g21, g23]
            exact h
          clear g21 g23 e1 e2 e3
          obtain rfl : l = [(0, 16), (1, 17), (2, 18), (3, 19), (4, 20), (5, 21), (6, 22), (7, 23), (8, 24), (9, 25), (10, 26), (11, 27), (12, 28), (13, 29), (14, 30), (15, 31), (16, 32), (17, 33), (18, 34), (19, 35), (20, 36), (22, 37)] := hl.symm.trans (by kernel_rfl)
          have p19 : vs 19 = _ := hp 19 (by decide) (by decide)
          have p22 : vs 22 = _ := hp 22 (by decide) (by decide)
          clear hp hl
          refine opgoal ({ dst := none, op := Op.store 66 (Operand.tmp 37) (Operand.tmp 35), type := 0, pos := "zsortanyfunc.go:331", after := #[{ on := 22, ground := Ground.data }, { on := 19, ground := Ground.data }, { on := 21, ground := Ground.chain }, { on := 0, ground := Ground.phase }, { on := 1, ground := Ground.phase }, { on := 2, ground := Ground.phase }, { on := 3, ground := Ground.phase }, { on := 4, ground := Ground.phase }, { on := 5, ground := Ground.phase }, { on := 6, ground := Ground.phase }, { on := 7, ground := Ground.phase }, { on := 8, ground := Ground.phase }, { on := 9, ground := Ground.phase }, { on := 10, ground := Ground.phase }, { on := 11, ground := Ground.phase }, { on := 12, ground := Ground.phase }, { on := 13, ground := Ground.phase }, { on := 14, ground := Ground.phase }, { on := 15, ground := Ground.phase }, { on := 16, ground := Ground.phase }, { on := 17, ground := Ground.phase }, { on := 18, ground := Ground.phase }, { on := 19, ground := Ground.phase }, { on := 20, ground := Ground.phase }, { on := 21, ground := Ground.phase }], guard := none }) (none) rfl rfl fun K hK => ?_
          obtain ⟨cur, hcur, hcs, hput⟩ := own_setT hS HL1.out hjj (x1, x2, x3, x4, x5, x6, x7)
          refine runs_store_blk (wanted_none rfl) TM (.tmp 37) (.tmp 35) rfl g (jj * 7) (eval_putAll (j := 22) (by simp) (by decide) (by intro k hk; simpa using hk) p22) TM cur (.agg #[.int .i64 x1, .int .i64 x2, .int .i64 x3, .int .i64 x4, .int .i64 x5, .int .i64 x6, .int .i64 x7]) (eval_putAll (j := 19) (by simp) (by decide) (by intro k hk; simpa using hk) p19) hcur (by kernel_rfl) hcs (by simp [Value.cells, Value.oneCell']) _ rfl ?_
          intro w5 hg5 hu5
          have hkk := keep_upd hu5
          exact hK undef _ trivial (hput w5 hg5) ⟨(fun h => absurd h (by decide)), (fun _ => hkk), fun h1 h2 => absurd rfl h2⟩ _ put_dfs rfl
      · intro l hl vs W dn hd hS hR hp
        replace hS : (fun W => W.ownsRow base TM 7 (.slice (some ⟨g, 0, none⟩) n c) n ((if (dn 23) then ((T0.set ii (y1, y2, y3, y4, y5, y6, y7)).set jj (x1, x2, x3, x4, x5, x6, x7)) else if (dn 21) then T0.set ii (y1, y2, y3, y4, y5, y6, y7) else T0).flatMap encT)) W := hS
        rw [hd 21 (by decide), hd 23 (by decide)] at hS
        obtain rfl : l = [(0, 16), (1, 17), (2, 18), (3, 19), (4, 20), (5, 21), (6, 22), (7, 23), (8, 24), (9, 25), (10, 26), (11, 27), (12, 28), (13, 29), (14, 30), (15, 31), (16, 32), (17, 33), (18, 34), (19, 35), (20, 36), (22, 37)] := hl.symm.trans (by kernel_rfl)
        have p0 : vs 0 = _ := hp 0 (by decide) (by decide)
        have p1 : vs 1 = _ := hp 1 (by decide) (by decide)
        have p2 : vs 2 = _ := hp 2 (by decide) (by decide)
        have p3 : vs 3 = _ := hp 3 (by decide) (by decide)
        have p4 : vs 4 = _ := hp 4 (by decide) (by decide)
        have p5 : vs 5 = _ := hp 5 (by decide) (by decide)
        have p6 : vs 6 = _ := hp 6 (by decide) (by decide)
        have p7 : vs 7 = _ := hp 7 (by decide) (by decide)
        have p8 : vs 8 = _ := hp 8 (by decide) (by decide)
        have p9 : vs 9 = _ := hp 9 (by decide) (by decide)
        have p10 : vs 10 = _ := hp 10 (by decide) (by decide)
        have p11 : vs 11 = _ := hp 11 (by decide) (by decide)
        have p12 : vs 12 = _ := hp 12 (by decide) (by decide)
        have p13 : vs 13 = _ := hp 13 (by decide) (by decide)
        have p14 : vs 14 = _ := hp 14 (by decide) (by decide)
        have p15 : vs 15 = _ := hp 15 (by decide) (by decide)
        have p16 : vs 16 = _ := hp 16 (by decide) (by decide)
        have p17 : vs 17 = _ := hp 17 (by decide) (by decide)
        have p18 : vs 18 = _ := hp 18 (by decide) (by decide)
        have p19 : vs 19 = _ := hp 19 (by decide) (by decide)
        have p20 : vs 20 = _ := hp 20 (by decide) (by decide)
        have p22 : vs 22 = _ := hp 22 (by decide) (by decide)
        clear hp hl
        simp only [putAll_mk, setAll, List.setIfInBounds_toArray, List.set_cons_succ, List.set_cons_zero, p0, p1, p2, p3, p4, p5, p6, p7, p8, p9, p10, p11, p12, p13, p14, p15, p16, p17, p18, p19, p20, p22]
        replace hS : W.ownsRow base TM 7 (.slice (some ⟨g, 0, none⟩) n c) n (((T0.set ii (y1, y2, y3, y4, y5, y6, y7)).set jj (x1, x2, x3, x4, x5, x6, x7)).flatMap encT) := hS
        have HS := Lib.hid hS
        have HR := Lib.hid hR
        clear hS hR hS0
        go_wp2_with fail
        go_roundw
        case rel => exact ⟨k + 1, by omega, by go_num, Lib.hid ⟨by rw [HN.out]; exact HS.out, HI.out.2.trans ((Keep.refl [g] wr).drew.trans HR.out)⟩⟩
        case measure => simp [intOf]; omega
    · obtain rfl : k = m := by omega
      go_wp2_with fail
      go_end0
      exact ⟨rfl, HI.out.1, HI.out.2⟩
end Go.Proofs.Ytbifmdepkbgnjaa.Wh

/- wheel: the sort's walk: the two short arms of symMerge. -/
import Derived.Test.YtbifmdepkbgnjaaWhV
namespace Go.Proofs.Ytbifmdepkbgnjaa.Wh
open Go.RowKit Go.Proofs.Ytbifmdepkbgnjaa.L Go.Proofs.Ytbifmdepkbgnjaa.R Go.Proofs.Ytbifmdepkbgnjaa.A Go.Proofs.Ytbifmdepkbgnjaa.S Go.Proofs.Ytbifmdepkbgnjaa.T Go.Proofs.Ytbifmdepkbgnjaa.C Go.Proofs.Ytbifmdepkbgnjaa.G Go.Proofs.Ytbifmdepkbgnjaa.E Go.Proofs.Ytbifmdepkbgnjaa.F
set_option linter.unusedVariables false
set_option linter.unusedSimpArgs false
set_option maxHeartbeats 16000000 in
set_option maxRecDepth 100000 in
theorem sym1_any (base g c n a0 b0 : Nat) (T0 : List Tm) (w W0 : World) (h : Srt base g c n w W0 T0) (hn : n ≤ 1000000) (hab : a0 + 1 < b0) (hb : b0 ≤ n) :
    Calls Try.prog 39 #[.slice (some ⟨g, 0, none⟩) n c, .int .i64 a0, .int .i64 ((a0 + 1 : Nat) : Int), .int .i64 b0, .func (.func 31) #[] #[]] W0 fun e w' => e = .returned (.tuple #[]) ∧ Srt base g c n w w' (upB T0 a0 (bs (fun h => ltAt T0 h a0) (a0 + 1) b0 - 1 - a0)) := by
  have HH := Lib.hid h
  have HL := Lib.hid h.len
  have hbd := bodied_cmp1
  unfold Bodied at hbd
  obtain ⟨m0, hm0⟩ : ∃ m0, a0 + 1 = m0 := ⟨_, rfl⟩
  rw [hm0]
  have e1 : (m0 : Int) - (a0 : Int) = 1 := by omega
  have HE0 := Lib.hid hm0
  obtain ⟨R, hR⟩ : ∃ R, bs (fun h => ltAt T0 h a0) m0 b0 = R := ⟨_, rfl⟩
  rw [hR]
  have HR : Hid (R = bsG (fun h => ltAt T0 h a0) (b0 - m0 + 1) m0 b0 ∧ m0 ≤ R ∧ R ≤ b0) := Lib.hid (by
    have := bsG_range (fun h => ltAt T0 h a0) (b0 - m0 + 1) m0 b0 (by omega)
    rw [← hR]
    exact ⟨rfl, this⟩)
  have hmb : m0 ≤ b0 := by omega
  have ham : a0 < m0 := by omega
  clear h hm0 hR hab
  go_enter Try.func39, Try.ntmps39
  go_wp2_with fail
  clear e1
  go_loopg [10, 11] (b0 - m0) (fun gk iv jv wr => ∃ (i j : Nat), gk = j - i ∧ iv = .int .i64 i ∧ jv = .int .i64 j ∧ i ≤ j ∧ m0 ≤ i ∧ j ≤ b0 ∧ Hid (Srt base g c n w wr T0 ∧ ∃ f, j - i < f ∧ R = bsG (fun h => ltAt T0 h a0) f i j))
  case atStart => exact ⟨m0, b0, rfl, rfl, rfl, hmb, Nat.le_refl _, Nat.le_refl _, Lib.hid ⟨HH.out, b0 - m0 + 1, by omega, HR.out.1⟩⟩
  case round =>
    obtain ⟨i, j, hgk, rfl, rfl, hij, hmi, hjb, HI⟩ := hrel
    by_cases hlt : i < j
    · have d1 : decide ((i : Int) < (j : Int)) = true := by simp; omega
      have d1n : decide (i < j) = true := by simpa using hlt
      obtain ⟨hh, hhe⟩ : ∃ hh, (i + j) / 2 = hh := ⟨_, rfl⟩
      have eh : ((i : Int) + (j : Int)) / 2 = (hh : Int) := by omega
      have hhn : hh < n := by omega
      have HHB : Hid (i ≤ hh ∧ hh < j) := Lib.hid (by omega)
      have hl0 := HI.out.1.len
      obtain ⟨x, hx⟩ : ∃ x, T0[hh]? = some x := ⟨_, List.getElem?_eq_getElem (by omega)⟩
      obtain ⟨y, hy⟩ : ∃ y, T0[a0]? = some y := ⟨_, List.getElem?_eq_getElem (by omega)⟩
      obtain ⟨q, hq⟩ : ∃ q, lt x y = q := ⟨_, rfl⟩
      have hla : ltAt T0 hh a0 = q := by rw [ltAt_at hx hy]; exact hq
      have HTRUE : Hid (q = true → ∃ f, j - (hh + 1) < f ∧ R = bsG (fun h => ltAt T0 h a0) f (hh + 1) j) := Lib.hid fun e => by
        obtain ⟨f, hf, hr⟩ := HI.out.2
        obtain ⟨f', rfl⟩ : ∃ f', f = f' + 1 := ⟨f - 1, by omega⟩
        refine ⟨f', by omega, ?_⟩
        rw [hr, bsG, if_pos hlt, hhe, if_pos (by simp [hla, e])]
      have HFALSE : Hid (q = false → ∃ f, hh - i < f ∧ R = bsG (fun h => ltAt T0 h a0) f i hh) := Lib.hid fun e => by
        obtain ⟨f, hf, hr⟩ := HI.out.2
        obtain ⟨f', rfl⟩ : ∃ f', f = f' + 1 := ⟨f - 1, by omega⟩
        refine ⟨f', by omega, ?_⟩
        rw [hr, bsG, if_pos hlt, hhe, if_neg (by simp [hla, e])]
      have HCMP := Lib.hid fun W => cmp1 x y W
      obtain ⟨cv, hcv⟩ : ∃ cv, cmpT x y = cv := ⟨_, rfl⟩
      have HQ : Hid (decide (cv < 0) = q) := Lib.hid (by rw [← hcv, cmp_lt]; exact hq)
      rw [hcv] at HCMP
      have HCX := Lib.hid (fun (W : World) (h : W.ownsRow base TM 7 (.slice (some ⟨g, 0, none⟩) n c) n (T0.flatMap encT)) => own_getT h hx)
      have HCY := Lib.hid (fun (W : World) (h : W.ownsRow base TM 7 (.slice (some ⟨g, 0, none⟩) n c) n (T0.flatMap encT)) => own_getT h hy)
      have hS0 : Srt base g c n w wr.drew T0 := HI.out.1.below (below_drewN 1 wr)
      have HS0 := Lib.hid hS0
      have hhI : (hh : Int) < (n : Int) := by omega
      have haI : (a0 : Int) < (n : Int) := by omega
      have haN : a0 < n := by omega
      obtain ⟨x1, x2, x3, x4, x5, x6, x7⟩ := x
      obtain ⟨y1, y2, y3, y4, y5, y6, y7⟩ := y
      dsimp only [aggT] at HCX HCY HCMP
      clear hS0 hx hy hl0 hq hcv hla hlt hhe
      go_wp2_with fail
      have hS0 := HS0.out
      clear eh d1 d1n
      have hb1 := HHB.out.1
      have hb2 := HHB.out.2
      refine wp_region_one (fun W => Srt base g c n w W T0) (fun u v => Below u.heap.size u v) (fun a i => match i with
          | 0 => (fun v _ => v = .func (.func 31) #[] #[])
          | 1 => (fun v _ => v = .slice (some ⟨g, 0, none⟩) n c)
          | 2 => (fun v _ => v = .int .i64 (hh : Int))
          | 3 => (fun v _ => v = .pointer (some ⟨g, hh * 7, none⟩))
          | 4 => (fun v _ => v = .agg #[.int .i64 x1, .int .i64 x2, .int .i64 x3, .int .i64 x4, .int .i64 x5, .int .i64 x6, .int .i64 x7])
          | 5 => (fun v _ => v = .slice (some ⟨g, 0, none⟩) n c)
          | 6 => (fun v _ => v = .int .i64 (a0 : Int))
          | 7 => (fun v _ => v = .pointer (some ⟨g, a0 * 7, none⟩))
          | 8 => (fun v _ => v = .agg #[.int .i64 y1, .int .i64 y2, .int .i64 y3, .int .i64 y4, .int .i64 y5, .int .i64 y6, .int .i64 y7])
          | 9 => (fun v _ => v = .int .i64 cv)
          | 10 => (fun v _ => v = .bool q)
          | _ => (fun _ _ => True)) #[0, 0, 0, 6, 14, 0, 0, 96, 224, 511, 1023] #[0, 0, 0, 6, 8, 0, 0, 96, 128, 273, 512] 2047 (by kernel_rfl) 11 rfl (fun m hm => by subst hm; kernel_rfl) (by kernel_rfl) (fun w => Below.refl _ w) (fun u v w h1 h2 => below2 h1 h2) ?_ (hS0) ?_ ?_
      · intro i hi
        rcases (by omega : i = 0 ∨ i = 1 ∨ i = 2 ∨ i = 3 ∨ i = 4 ∨ i = 5 ∨ i = 6 ∨ i = 7 ∨ i = 8 ∨ i = 9 ∨ i = 10) with rfl | rfl | rfl | rfl | rfl | rfl | rfl | rfl | rfl | rfl | rfl
        · exact fun v w w' h hr => by exact h
        · exact fun v w w' h hr => by exact h
        · exact fun v w w' h hr => by exact h
        · exact fun v w w' h hr => by exact h
        · exact fun v w w' h hr => by exact h
        · exact fun v w w' h hr => by exact h
        · exact fun v w w' h hr => by exact h
        · exact fun v w w' h hr => by exact h
        · exact fun v w w' h hr => by exact h
        · exact fun v w w' h hr => by exact h
        · exact fun v w w' h hr => by exact h
      · intro i hi
        rcases (by omega : i = 0 ∨ i = 1 ∨ i = 2 ∨ i = 3 ∨ i = 4 ∨ i = 5 ∨ i = 6 ∨ i = 7 ∨ i = 8 ∨ i = 9 ∨ i = 10) with rfl | rfl | rfl | rfl | rfl | rfl | rfl | rfl | rfl | rfl | rfl
        · -- 0: Op.move (Operand.tmp 4)
          intro l hl vs W hS hR hp
          obtain rfl : l = [] := hl.symm.trans (by kernel_rfl)
          clear hp hl
          refine opgoal (_) (some 40) rfl rfl fun K hK => ?_
          refine Runs.mk ?_
          simp only [putAll]
          go_simp
          refine hK _ _ ?_ hS ((fun w => Below.refl _ w) W) _ rfl rfl
          first | rfl | go_simp | simp
        · -- 1: Op.move (Operand.tmp 0)
          intro l hl vs W hS hR hp
          obtain rfl : l = [] := hl.symm.trans (by kernel_rfl)
          clear hp hl
          refine opgoal (_) (some 41) rfl rfl fun K hK => ?_
          refine Runs.mk ?_
          simp only [putAll]
          go_simp
          refine hK _ _ ?_ hS ((fun w => Below.refl _ w) W) _ rfl rfl
          first | rfl | go_simp | simp
        · -- 2: Op.move (Operand.tmp 12)
          intro l hl vs W hS hR hp
          obtain rfl : l = [] := hl.symm.trans (by kernel_rfl)
          clear hp hl
          refine opgoal (_) (some 42) rfl rfl fun K hK => ?_
          refine Runs.mk ?_
          simp only [putAll]
          go_simp
          refine hK _ _ ?_ hS ((fun w => Below.refl _ w) W) _ rfl rfl
          first | rfl | go_simp | simp
        · -- 3: Op.indexAddr 61 (Operand.tmp 41) (Operand.tmp 42)
          intro l hl vs W hS hR hp
          obtain rfl : l = [(1, 41), (2, 42)] := hl.symm.trans (by kernel_rfl)
          have p1 : vs 1 = _ := hp 1 (by decide) (by decide)
          have p2 : vs 2 = _ := hp 2 (by decide) (by decide)
          clear hp hl
          refine opgoal (_) (some 43) rfl rfl fun K hK => ?_
          refine Runs.mk ?_
          simp only [putAll]
          go_simp
          refine hK _ _ ?_ hS ((fun w => Below.refl _ w) W) _ rfl rfl
          first | rfl | go_simp | simp
        · -- 4: Op.load 66 (Operand.tmp 43)
          intro l hl vs W hS hR hp
          obtain rfl : l = [(1, 41), (2, 42), (3, 43)] := hl.symm.trans (by kernel_rfl)
          have p3 : vs 3 = _ := hp 3 (by decide) (by decide)
          clear hp hl
          refine opgoal (_) (some 44) rfl rfl fun K hK => ?_
          obtain ⟨e0, e1, e2, e3, e4, e5, e6⟩ := HCX.out W hS.1
          refine Runs.mk ?_
          simp only [putAll]
          go_simp
          refine hK _ _ ?_ hS ((fun w => Below.refl _ w) W) _ rfl rfl
          first | rfl | go_simp | simp
        · -- 5: Op.move (Operand.tmp 0)
          intro l hl vs W hS hR hp
          obtain rfl : l = [] := hl.symm.trans (by kernel_rfl)
          clear hp hl
          refine opgoal (_) (some 45) rfl rfl fun K hK => ?_
          refine Runs.mk ?_
          simp only [putAll]
          go_simp
          refine hK _ _ ?_ hS ((fun w => Below.refl _ w) W) _ rfl rfl
          first | rfl | go_simp | simp
        · -- 6: Op.move (Operand.tmp 1)
          intro l hl vs W hS hR hp
          obtain rfl : l = [] := hl.symm.trans (by kernel_rfl)
          clear hp hl
          refine opgoal (_) (some 46) rfl rfl fun K hK => ?_
          refine Runs.mk ?_
          simp only [putAll]
          go_simp
          refine hK _ _ ?_ hS ((fun w => Below.refl _ w) W) _ rfl rfl
          first | rfl | go_simp | simp
        · -- 7: Op.indexAddr 61 (Operand.tmp 45) (Operand.tmp 46)
          intro l hl vs W hS hR hp
          obtain rfl : l = [(5, 45), (6, 46)] := hl.symm.trans (by kernel_rfl)
          have p5 : vs 5 = _ := hp 5 (by decide) (by decide)
          have p6 : vs 6 = _ := hp 6 (by decide) (by decide)
          clear hp hl
          refine opgoal (_) (some 47) rfl rfl fun K hK => ?_
          refine Runs.mk ?_
          simp only [putAll]
          go_simp
          refine hK _ _ ?_ hS ((fun w => Below.refl _ w) W) _ rfl rfl
          first | rfl | go_simp | simp
        · -- 8: Op.load 66 (Operand.tmp 47)
          intro l hl vs W hS hR hp
          obtain rfl : l = [(5, 45), (6, 46), (7, 47)] := hl.symm.trans (by kernel_rfl)
          have p7 : vs 7 = _ := hp 7 (by decide) (by decide)
          clear hp hl
          refine opgoal (_) (some 48) rfl rfl fun K hK => ?_
          obtain ⟨e0, e1, e2, e3, e4, e5, e6⟩ := HCY.out W hS.1
          refine Runs.mk ?_
          simp only [putAll]
          go_simp
          refine hK _ _ ?_ hS ((fun w => Below.refl _ w) W) _ rfl rfl
          first | rfl | go_simp | simp
        · -- 9: Op.call { callee := Callee.value (Operand.tmp 40), args := #[Operand.tmp 44, Operand.tmp 48], argTypes := #[66, 66] }
          intro l hl vs W hS hR hp
          obtain rfl : l = [(0, 40), (1, 41), (2, 42), (3, 43), (4, 44), (5, 45), (6, 46), (7, 47), (8, 48)] := hl.symm.trans (by kernel_rfl)
          have p0 : vs 0 = _ := hp 0 (by decide) (by decide)
          have p4 : vs 4 = _ := hp 4 (by decide) (by decide)
          have p8 : vs 8 = _ := hp 8 (by decide) (by decide)
          clear hp hl
          refine opgoal (_) (some 49) rfl rfl fun K hK => ?_
          refine Runs.mk ?_
          simp only [putAll]
          go_simp
          refine (HCMP.out W).mono ?_
          rintro e w' ⟨rfl, hb⟩
          go_simp
          exact hK _ _ rfl (hS.below hb) hb _ rfl rfl
        · -- 10: Op.binOp BinOp.lss 3 (Operand.tmp 49) (Operand.const (Value.int IntKind.i64 0)) 3
          intro l hl vs W hS hR hp
          obtain rfl : l = [(0, 40), (1, 41), (2, 42), (3, 43), (4, 44), (5, 45), (6, 46), (7, 47), (8, 48), (9, 49)] := hl.symm.trans (by kernel_rfl)
          have p9 : vs 9 = _ := hp 9 (by decide) (by decide)
          clear hp hl
          refine opgoal (_) (some 50) rfl rfl fun K hK => ?_
          have hq9 := HQ.out
          refine Runs.mk ?_
          simp only [putAll]
          go_simp
          refine hK _ _ ?_ hS ((fun w => Below.refl _ w) W) _ rfl rfl
          first | rfl | go_simp | simp
      · intro l hl vs W hS hR hp
        obtain rfl : l = [(0, 40), (1, 41), (2, 42), (3, 43), (4, 44), (5, 45), (6, 46), (7, 47), (8, 48), (9, 49), (10, 50)] := hl.symm.trans (by kernel_rfl)
        have p0 : vs 0 = _ := hp 0 (by decide) (by decide)
        have p1 : vs 1 = _ := hp 1 (by decide) (by decide)
        have p2 : vs 2 = _ := hp 2 (by decide) (by decide)
        have p3 : vs 3 = _ := hp 3 (by decide) (by decide)
        have p4 : vs 4 = _ := hp 4 (by decide) (by decide)
        have p5 : vs 5 = _ := hp 5 (by decide) (by decide)
        have p6 : vs 6 = _ := hp 6 (by decide) (by decide)
        have p7 : vs 7 = _ := hp 7 (by decide) (by decide)
        have p8 : vs 8 = _ := hp 8 (by decide) (by decide)
        have p9 : vs 9 = _ := hp 9 (by decide) (by decide)
        have p10 : vs 10 = _ := hp 10 (by decide) (by decide)
        clear hp hl
        simp only [putAll_mk, setAll, List.setIfInBounds_toArray, List.set_cons_succ, List.set_cons_zero, p0, p1, p2, p3, p4, p5, p6, p7, p8, p9, p10]
        have HS8 := Lib.hid hS
        clear hS hR hS0
        cases q with
        | true =>
          have HN := Lib.hid (HTRUE.out rfl)
          go_wp2_with fail
          go_roundg (j - (hh + 1))
          case measure => omega
          case rel => exact ⟨hh + 1, j, rfl, by go_num, rfl, by omega, by omega, by omega, Lib.hid ⟨HS8.out, HN.out⟩⟩
        | false =>
          have HN := Lib.hid (HFALSE.out rfl)
          go_wp2_with fail
          go_roundg (hh - i)
          case measure => omega
          case rel => exact ⟨i, hh, rfl, rfl, rfl, by omega, by omega, by omega, Lib.hid ⟨HS8.out, HN.out⟩⟩
    · have d1 : decide ((i : Int) < (j : Int)) = false := by simp; omega
      have d1n : decide (i < j) = false := by simp; omega
      have hRi : R = i := by
        obtain ⟨f, hf, hr⟩ := HI.out.2
        obtain ⟨f', rfl⟩ : ∃ f', f = f' + 1 := ⟨f - 1, by omega⟩
        rw [hr, bsG, if_neg hlt]
      subst hRi
      have HRR := HR.out.2
      have HI0 : Hid (Srt base g c n w wr T0) := Lib.hid HI.out.1
      clear HI HR hlt
      go_wp2_with fail
      clear d1 d1n
      go_loopg [13] (R - 1 - a0) (fun gk kv wr => ∃ k : Nat, gk = R - 1 - a0 - k ∧ kv = .int .i64 ((a0 + k : Nat) : Int) ∧ k ≤ R - 1 - a0 ∧ Hid (wr.ownsRow base TM 7 (.slice (some ⟨g, 0, none⟩) n c) n ((upB T0 a0 k).flatMap encT) ∧ Keep [g] w wr))
      case atStart => exact ⟨0, rfl, rfl, by omega, HI0⟩
      case round =>
        obtain ⟨k, hgk2, rfl, hk, HI⟩ := hrel
        obtain ⟨ii, hii0⟩ : ∃ ii, a0 + k = ii := ⟨_, rfl⟩
        rw [hii0]
        by_cases hlt : k < R - 1 - a0
        · obtain ⟨T1, hT1⟩ : ∃ T1, upB T0 a0 k = T1 := ⟨_, rfl⟩
          have hl0 : T1.length = n := by rw [← hT1, upB_len]; exact HL.out
          obtain ⟨jj, hjj0⟩ : ∃ jj, ii + 1 = jj := ⟨_, rfl⟩
          have hii : ii < n := by omega
          have hjj : jj < n := by omega
          obtain ⟨x, hx⟩ : ∃ x, T1[ii]? = some x := ⟨_, List.getElem?_eq_getElem (by omega)⟩
          obtain ⟨y, hy⟩ : ∃ y, T1[jj]? = some y := ⟨_, List.getElem?_eq_getElem (by omega)⟩
          have HN : Hid (upB T0 a0 (k + 1) = (T1.set ii y).set jj x) := Lib.hid (by rw [upB, hT1, hii0, hjj0, swp_at hx hy])
          have hi0 := HI.out.1
          rw [hT1] at hi0
          obtain ⟨T0', hT0'⟩ : ∃ T', T' = T1 := ⟨_, rfl⟩
          have HL0 := Lib.hid hl0
          have HL1 : Hid ((T1.set ii y).length = n) := Lib.hid (by rw [List.length_set]; exact hl0)
          have HJJ : Hid (IntKind.i64.wrap ((ii : Int) + 1) = (jj : Int)) := Lib.hid (by rw [IntKind.wrap_i64]; omega)
          have HJE : Hid (((a0 + (k + 1) : Nat) : Int) = (ii : Int) + 1) := Lib.hid (by omega)
          have HCI := Lib.hid (fun (W : World) (h : W.ownsRow base TM 7 (.slice (some ⟨g, 0, none⟩) n c) n (T1.flatMap encT)) => own_getT h hx)
          have HCJ := Lib.hid (fun (W : World) (h : W.ownsRow base TM 7 (.slice (some ⟨g, 0, none⟩) n c) n (T1.flatMap encT)) => own_getT h hy)
          have hS0 : wr.drew.ownsRow base TM 7 (.slice (some ⟨g, 0, none⟩) n c) n (T1.flatMap encT) := own_kept hi0 (below_drewN 1 wr)
          have HS0 := Lib.hid hS0
          have d2 : decide ((ii : Int) < (R : Int) - 1) = true := by simp; omega
          obtain ⟨x1, x2, x3, x4, x5, x6, x7⟩ := x
          obtain ⟨y1, y2, y3, y4, y5, y6, y7⟩ := y
          dsimp only at HCI HCJ HN HL1
          have hiI : (ii : Int) < (n : Int) := by omega
          have hjI : (jj : Int) < (n : Int) := by omega
          clear hS0 hi0 hx hy hl0 hT1 hii0 hjj0 hT0'
          go_wp2_with fail
          have hS0 := HS0.out
          clear d2
          refine wp_region_done (fun dnf => fun W => W.ownsRow base TM 7 (.slice (some ⟨g, 0, none⟩) n c) n ((if (dnf 17) then ((T1.set ii (y1, y2, y3, y4, y5, y6, y7)).set jj (x1, x2, x3, x4, x5, x6, x7)) else if (dnf 15) then T1.set ii (y1, y2, y3, y4, y5, y6, y7) else T1).flatMap encT)) (fun u v => Keep [g] u v) (fun k u v => (k = 15 → (fun u v => Keep [g] u v) u v) ∧ (k = 17 → (fun u v => Keep [g] u v) u v) ∧ (¬ k = 15 → ¬ k = 17 → (fun u v => Keep [g] u v) u v)) (fun a i => match i with
              | 0 => (fun v _ => v = .slice (some ⟨g, 0, none⟩) n c)
              | 1 => (fun v _ => v = .int .i64 (ii : Int))
              | 2 => (fun v _ => v = .slice (some ⟨g, 0, none⟩) n c)
              | 3 => (fun v _ => v = .int .i64 (ii : Int))
              | 4 => (fun v _ => v = .int .i64 (jj : Int))
              | 5 => (fun v _ => v = .slice (some ⟨g, 0, none⟩) n c)
              | 6 => (fun v _ => v = .int .i64 (ii : Int))
              | 7 => (fun v _ => v = .int .i64 (jj : Int))
              | 8 => (fun v _ => v = .pointer (some ⟨g, jj * 7, none⟩))
              | 9 => (fun v _ => v = .agg #[.int .i64 y1, .int .i64 y2, .int .i64 y3, .int .i64 y4, .int .i64 y5, .int .i64 y6, .int .i64 y7])
              | 10 => (fun v _ => v = .slice (some ⟨g, 0, none⟩) n c)
              | 11 => (fun v _ => v = .int .i64 (ii : Int))
              | 12 => (fun v _ => v = .pointer (some ⟨g, ii * 7, none⟩))
              | 13 => (fun v _ => v = .agg #[.int .i64 x1, .int .i64 x2, .int .i64 x3, .int .i64 x4, .int .i64 x5, .int .i64 x6, .int .i64 x7])
              | 14 => (fun v _ => v = .pointer (some ⟨g, ii * 7, none⟩))
              | 15 => (fun v W => True)
              | 16 => (fun v _ => v = .pointer (some ⟨g, jj * 7, none⟩))
              | 17 => (fun v W => True)
              | _ => (fun _ _ => True)) #[0, 0, 0, 0, 8, 0, 0, 64, 224, 480, 0, 0, 3072, 7168, 16355, 32739, 65535, 131071] #[0, 0, 0, 0, 8, 0, 0, 64, 160, 256, 0, 0, 3072, 4096, 3, 16896, 20, 73728] 98303 (by kernel_rfl) 18 rfl (fun m hm => by subst hm; kernel_rfl) (by kernel_rfl) (fun w => Keep.refl _ w) (fun u v w h1 h2 => h1.trans h2) ?_ ?_ (hS0) ?_ ?_
          · intro k u v hk hr
            by_cases hs15 : k = 15
            · have h := hr.1 hs15; exact h
            by_cases hs17 : k = 17
            · have h := hr.2.1 hs17; exact h
            have h := hr.2.2 hs15 hs17; exact h
          · intro i hi
            rcases (by omega : i = 0 ∨ i = 1 ∨ i = 2 ∨ i = 3 ∨ i = 4 ∨ i = 5 ∨ i = 6 ∨ i = 7 ∨ i = 8 ∨ i = 9 ∨ i = 10 ∨ i = 11 ∨ i = 12 ∨ i = 13 ∨ i = 14 ∨ i = 15 ∨ i = 16 ∨ i = 17) with rfl | rfl | rfl | rfl | rfl | rfl | rfl | rfl | rfl | rfl | rfl | rfl | rfl | rfl | rfl | rfl | rfl | rfl
            · intro k hk y hy hyt v w w' h hr
              exact h
            · intro k hk y hy hyt v w w' h hr
              exact h
            · intro k hk y hy hyt v w w' h hr
              exact h
            · intro k hk y hy hyt v w w' h hr
              exact h
            · intro k hk y hy hyt v w w' h hr
              exact h
            · intro k hk y hy hyt v w w' h hr
              exact h
            · intro k hk y hy hyt v w w' h hr
              exact h
            · intro k hk y hy hyt v w w' h hr
              exact h
            · intro k hk y hy hyt v w w' h hr
              exact h
            · intro k hk y hy hyt v w w' h hr
              exact h
            · intro k hk y hy hyt v w w' h hr
              exact h
            · intro k hk y hy hyt v w w' h hr
              exact h
            · intro k hk y hy hyt v w w' h hr
              exact h
            · intro k hk y hy hyt v w w' h hr
              exact h
            · intro k hk y hy hyt v w w' h hr
              exact h
            · intro k hk y hy hyt v w w' h hr
              by_cases hs15 : k = 15
              · have hr0 := hr.1 hs15
                subst hs15
                exact absurd (hy.trans hyt) (ne_true_of_eq_false (by kernel_rfl))
              by_cases hs17 : k = 17
              · have hr0 := hr.2.1 hs17
                subst hs17
                exact absurd (hy.trans hyt) (ne_true_of_eq_false (by kernel_rfl))
              have hr := hr.2.2 hs15 hs17
              exact trivial
            · intro k hk y hy hyt v w w' h hr
              exact h
            · intro k hk y hy hyt v w w' h hr
              by_cases hs15 : k = 15
              · have hr0 := hr.1 hs15
                subst hs15
                exact absurd (hy.trans hyt) (ne_true_of_eq_false (by kernel_rfl))
              by_cases hs17 : k = 17
              · have hr0 := hr.2.1 hs17
                subst hs17
                exact absurd (hy.trans hyt) (ne_true_of_eq_false (by kernel_rfl))
              have hr := hr.2.2 hs15 hs17
              exact trivial
          · intro i hi
            rcases (by omega : i = 0 ∨ i = 1 ∨ i = 2 ∨ i = 3 ∨ i = 4 ∨ i = 5 ∨ i = 6 ∨ i = 7 ∨ i = 8 ∨ i = 9 ∨ i = 10 ∨ i = 11 ∨ i = 12 ∨ i = 13 ∨ i = 14 ∨ i = 15 ∨ i = 16 ∨ i = 17) with rfl | rfl | rfl | rfl | rfl | rfl | rfl | rfl | rfl | rfl | rfl | rfl | rfl | rfl | rfl | rfl | rfl | rfl
            · -- 0: Op.move (Operand.tmp 0)
              intro l hl vs W dn e1 e2 e3 hS hR hp
              have f15 : dn 15 = false := e3 15 (by kernel_rfl)
              have f17 : dn 17 = false := e3 17 (by kernel_rfl)
              replace hS : (fun W => W.ownsRow base TM 7 (.slice (some ⟨g, 0, none⟩) n c) n ((if (dn 17) then ((T1.set ii (y1, y2, y3, y4, y5, y6, y7)).set jj (x1, x2, x3, x4, x5, x6, x7)) else if (dn 15) then T1.set ii (y1, y2, y3, y4, y5, y6, y7) else T1).flatMap encT)) W := hS
              rw [f15, f17] at hS
              have g15 : (dn 15 || ((0 : Nat) == 15)) = false := by rw [f15]; rfl
              have g17 : (dn 17 || ((0 : Nat) == 17)) = false := by rw [f17]; rfl
              refine OpGoal.imp (S1 := fun W => W.ownsRow base TM 7 (.slice (some ⟨g, 0, none⟩) n c) n ((if false then ((T1.set ii (y1, y2, y3, y4, y5, y6, y7)).set jj (x1, x2, x3, x4, x5, x6, x7)) else if false then T1.set ii (y1, y2, y3, y4, y5, y6, y7) else T1).flatMap encT)) (fun W' h => ?_) ?_
              · show (fun W => W.ownsRow base TM 7 (.slice (some ⟨g, 0, none⟩) n c) n ((if (dn 17 || ((0 : Nat) == 17)) then ((T1.set ii (y1, y2, y3, y4, y5, y6, y7)).set jj (x1, x2, x3, x4, x5, x6, x7)) else if (dn 15 || ((0 : Nat) == 15)) then T1.set ii (y1, y2, y3, y4, y5, y6, y7) else T1).flatMap encT)) W'
                rw [g15, g17]
                exact h
              clear g15 g17 e1 e2 e3
              obtain rfl : l = [] := hl.symm.trans (by kernel_rfl)
              clear hp hl
              refine opgoal (_) (some 61) rfl rfl fun K hK => ?_
              refine Runs.mk ?_
              simp only [putAll]
              go_simp
              refine hK _ _ ?_ hS ⟨fun h => absurd h (by decide), fun h => absurd h (by decide), fun h15 h17 => ((fun w => Keep.refl _ w) W)⟩ _ rfl rfl
              first | rfl | go_simp | simp
            · -- 1: Op.move (Operand.tmp 13)
              intro l hl vs W dn e1 e2 e3 hS hR hp
              have f15 : dn 15 = false := e3 15 (by kernel_rfl)
              have f17 : dn 17 = false := e3 17 (by kernel_rfl)
              replace hS : (fun W => W.ownsRow base TM 7 (.slice (some ⟨g, 0, none⟩) n c) n ((if (dn 17) then ((T1.set ii (y1, y2, y3, y4, y5, y6, y7)).set jj (x1, x2, x3, x4, x5, x6, x7)) else if (dn 15) then T1.set ii (y1, y2, y3, y4, y5, y6, y7) else T1).flatMap encT)) W := hS
              rw [f15, f17] at hS
              have g15 : (dn 15 || ((1 : Nat) == 15)) = false := by rw [f15]; rfl
              have g17 : (dn 17 || ((1 : Nat) == 17)) = false := by rw [f17]; rfl
              refine OpGoal.imp (S1 := fun W => W.ownsRow base TM 7 (.slice (some ⟨g, 0, none⟩) n c) n ((if false then ((T1.set ii (y1, y2, y3, y4, y5, y6, y7)).set jj (x1, x2, x3, x4, x5, x6, x7)) else if false then T1.set ii (y1, y2, y3, y4, y5, y6, y7) else T1).flatMap encT)) (fun W' h => ?_) ?_
              · show (fun W => W.ownsRow base TM 7 (.slice (some ⟨g, 0, none⟩) n c) n ((if (dn 17 || ((1 : Nat) == 17)) then ((T1.set ii (y1, y2, y3, y4, y5, y6, y7)).set jj (x1, x2, x3, x4, x5, x6, x7)) else if (dn 15 || ((1 : Nat) == 15)) then T1.set ii (y1, y2, y3, y4, y5, y6, y7) else T1).flatMap encT)) W'
                rw [g15, g17]
                exact h
              clear g15 g17 e1 e2 e3
              obtain rfl : l = [] := hl.symm.trans (by kernel_rfl)
              clear hp hl
              refine opgoal (_) (some 62) rfl rfl fun K hK => ?_
              refine Runs.mk ?_
              simp only [putAll]
              go_simp
              refine hK _ _ ?_ hS ⟨fun h => absurd h (by decide), fun h => absurd h (by decide), fun h15 h17 => ((fun w => Keep.refl _ w) W)⟩ _ rfl rfl
              first | rfl | go_simp | simp
            · -- 2: Op.move (Operand.tmp 0)
              intro l hl vs W dn e1 e2 e3 hS hR hp
              have f15 : dn 15 = dn 15 := rfl
              have f17 : dn 17 = false := e3 17 (by kernel_rfl)
              replace hS : (fun W => W.ownsRow base TM 7 (.slice (some ⟨g, 0, none⟩) n c) n ((if (dn 17) then ((T1.set ii (y1, y2, y3, y4, y5, y6, y7)).set jj (x1, x2, x3, x4, x5, x6, x7)) else if (dn 15) then T1.set ii (y1, y2, y3, y4, y5, y6, y7) else T1).flatMap encT)) W := hS
              rw [f17] at hS
              have g15 : (dn 15 || ((2 : Nat) == 15)) = dn 15 := Bool.or_false _
              have g17 : (dn 17 || ((2 : Nat) == 17)) = false := by rw [f17]; rfl
              refine OpGoal.imp (S1 := fun W => W.ownsRow base TM 7 (.slice (some ⟨g, 0, none⟩) n c) n ((if false then ((T1.set ii (y1, y2, y3, y4, y5, y6, y7)).set jj (x1, x2, x3, x4, x5, x6, x7)) else if (dn 15) then T1.set ii (y1, y2, y3, y4, y5, y6, y7) else T1).flatMap encT)) (fun W' h => ?_) ?_
              · show (fun W => W.ownsRow base TM 7 (.slice (some ⟨g, 0, none⟩) n c) n ((if (dn 17 || ((2 : Nat) == 17)) then ((T1.set ii (y1, y2, y3, y4, y5, y6, y7)).set jj (x1, x2, x3, x4, x5, x6, x7)) else if (dn 15 || ((2 : Nat) == 15)) then T1.set ii (y1, y2, y3, y4, y5, y6, y7) else T1).flatMap encT)) W'
                rw [g15, g17]
                exact h
              clear g15 g17 e1 e2 e3
              obtain rfl : l = [] := hl.symm.trans (by kernel_rfl)
              clear hp hl
              refine opgoal (_) (some 63) rfl rfl fun K hK => ?_
              refine Runs.mk ?_
              simp only [putAll]
              go_simp
              refine hK _ _ ?_ hS ⟨fun h => absurd h (by decide), fun h => absurd h (by decide), fun h15 h17 => ((fun w => Keep.refl _ w) W)⟩ _ rfl rfl
              first | rfl | go_simp | simp
            · -- 3: Op.move (Operand.tmp 13)
              intro l hl vs W dn e1 e2 e3 hS hR hp
              have f15 : dn 15 = dn 15 := rfl
              have f17 : dn 17 = false := e3 17 (by kernel_rfl)
              replace hS : (fun W => W.ownsRow base TM 7 (.slice (some ⟨g, 0, none⟩) n c) n ((if (dn 17) then ((T1.set ii (y1, y2, y3, y4, y5, y6, y7)).set jj (x1, x2, x3, x4, x5, x6, x7)) else if (dn 15) then T1.set ii (y1, y2, y3, y4, y5, y6, y7) else T1).flatMap encT)) W := hS
              rw [f17] at hS
              have g15 : (dn 15 || ((3 : Nat) == 15)) = dn 15 := Bool.or_false _
              have g17 : (dn 17 || ((3 : Nat) == 17)) = false := by rw [f17]; rfl
              refine OpGoal.imp (S1 := fun W => W.ownsRow base TM 7 (.slice (some ⟨g, 0, none⟩) n c) n ((if false then ((T1.set ii (y1, y2, y3, y4, y5, y6, y7)).set jj (x1, x2, x3, x4, x5, x6, x7)) else if (dn 15) then T1.set ii (y1, y2, y3, y4, y5, y6, y7) else T1).flatMap encT)) (fun W' h => ?_) ?_
              · show (fun W => W.ownsRow base TM 7 (.slice (some ⟨g, 0, none⟩) n c) n ((if (dn 17 || ((3 : Nat) == 17)) then ((T1.set ii (y1, y2, y3, y4, y5, y6, y7)).set jj (x1, x2, x3, x4, x5, x6, x7)) else if (dn 15 || ((3 : Nat) == 15)) then T1.set ii (y1, y2, y3, y4, y5, y6, y7) else T1).flatMap encT)) W'
                rw [g15, g17]
                exact h
              clear g15 g17 e1 e2 e3
              obtain rfl : l = [] := hl.symm.trans (by kernel_rfl)
              clear hp hl
              refine opgoal (_) (some 64) rfl rfl fun K hK => ?_
              refine Runs.mk ?_
              simp only [putAll]
              go_simp
              refine hK _ _ ?_ hS ⟨fun h => absurd h (by decide), fun h => absurd h (by decide), fun h15 h17 => ((fun w => Keep.refl _ w) W)⟩ _ rfl rfl
              first | rfl | go_simp | simp
            · -- 4: Op.binOp BinOp.add 3 (Operand.tmp 64) (Operand.const (Value.int IntKind.i64 1)) 3
              intro l hl vs W dn e1 e2 e3 hS hR hp
              have f15 : dn 15 = dn 15 := rfl
              have f17 : dn 17 = false := e3 17 (by kernel_rfl)
              replace hS : (fun W => W.ownsRow base TM 7 (.slice (some ⟨g, 0, none⟩) n c) n ((if (dn 17) then ((T1.set ii (y1, y2, y3, y4, y5, y6, y7)).set jj (x1, x2, x3, x4, x5, x6, x7)) else if (dn 15) then T1.set ii (y1, y2, y3, y4, y5, y6, y7) else T1).flatMap encT)) W := hS
              rw [f17] at hS
              have g15 : (dn 15 || ((4 : Nat) == 15)) = dn 15 := Bool.or_false _
              have g17 : (dn 17 || ((4 : Nat) == 17)) = false := by rw [f17]; rfl
              refine OpGoal.imp (S1 := fun W => W.ownsRow base TM 7 (.slice (some ⟨g, 0, none⟩) n c) n ((if false then ((T1.set ii (y1, y2, y3, y4, y5, y6, y7)).set jj (x1, x2, x3, x4, x5, x6, x7)) else if (dn 15) then T1.set ii (y1, y2, y3, y4, y5, y6, y7) else T1).flatMap encT)) (fun W' h => ?_) ?_
              · show (fun W => W.ownsRow base TM 7 (.slice (some ⟨g, 0, none⟩) n c) n ((if (dn 17 || ((4 : Nat) == 17)) then ((T1.set ii (y1, y2, y3, y4, y5, y6, y7)).set jj (x1, x2, x3, x4, x5, x6, x7)) else if (dn 15 || ((4 : Nat) == 15)) then T1.set ii (y1, y2, y3, y4, y5, y6, y7) else T1).flatMap encT)) W'
                rw [g15, g17]
                exact h
              clear g15 g17 e1 e2 e3
              obtain rfl : l = [(3, 64)] := hl.symm.trans (by kernel_rfl)
              have p3 : vs 3 = _ := hp 3 (by decide) (by decide)
              clear hp hl
              refine opgoal (_) (some 65) rfl rfl fun K hK => ?_
              have hw := HJJ.out
              refine Runs.mk ?_
              simp only [putAll]
              go_simp
              refine hK _ _ ?_ hS ⟨fun h => absurd h (by decide), fun h => absurd h (by decide), fun h15 h17 => ((fun w => Keep.refl _ w) W)⟩ _ rfl rfl
              first | rfl | go_simp | simp
            · -- 5: Op.move (Operand.tmp 0)
              intro l hl vs W dn e1 e2 e3 hS hR hp
              have f15 : dn 15 = false := e3 15 (by kernel_rfl)
              have f17 : dn 17 = false := e3 17 (by kernel_rfl)
              replace hS : (fun W => W.ownsRow base TM 7 (.slice (some ⟨g, 0, none⟩) n c) n ((if (dn 17) then ((T1.set ii (y1, y2, y3, y4, y5, y6, y7)).set jj (x1, x2, x3, x4, x5, x6, x7)) else if (dn 15) then T1.set ii (y1, y2, y3, y4, y5, y6, y7) else T1).flatMap encT)) W := hS
              rw [f15, f17] at hS
              have g15 : (dn 15 || ((5 : Nat) == 15)) = false := by rw [f15]; rfl
              have g17 : (dn 17 || ((5 : Nat) == 17)) = false := by rw [f17]; rfl
              refine OpGoal.imp (S1 := fun W => W.ownsRow base TM 7 (.slice (some ⟨g, 0, none⟩) n c) n ((if false then ((T1.set ii (y1, y2, y3, y4, y5, y6, y7)).set jj (x1, x2, x3, x4, x5, x6, x7)) else if false then T1.set ii (y1, y2, y3, y4, y5, y6, y7) else T1).flatMap encT)) (fun W' h => ?_) ?_
              · show (fun W => W.ownsRow base TM 7 (.slice (some ⟨g, 0, none⟩) n c) n ((if (dn 17 || ((5 : Nat) == 17)) then ((T1.set ii (y1, y2, y3, y4, y5, y6, y7)).set jj (x1, x2, x3, x4, x5, x6, x7)) else if (dn 15 || ((5 : Nat) == 15)) then T1.set ii (y1, y2, y3, y4, y5, y6, y7) else T1).flatMap encT)) W'
                rw [g15, g17]
                exact h
              clear g15 g17 e1 e2 e3
              obtain rfl : l = [] := hl.symm.trans (by kernel_rfl)
              clear hp hl
              refine opgoal (_) (some 66) rfl rfl fun K hK => ?_
              refine Runs.mk ?_
              simp only [putAll]
              go_simp
              refine hK _ _ ?_ hS ⟨fun h => absurd h (by decide), fun h => absurd h (by decide), fun h15 h17 => ((fun w => Keep.refl _ w) W)⟩ _ rfl rfl
              first | rfl | go_simp | simp
            · -- 6: Op.move (Operand.tmp 13)
              intro l hl vs W dn e1 e2 e3 hS hR hp
              have f15 : dn 15 = false := e3 15 (by kernel_rfl)
              have f17 : dn 17 = false := e3 17 (by kernel_rfl)
              replace hS : (fun W => W.ownsRow base TM 7 (.slice (some ⟨g, 0, none⟩) n c) n ((if (dn 17) then ((T1.set ii (y1, y2, y3, y4, y5, y6, y7)).set jj (x1, x2, x3, x4, x5, x6, x7)) else if (dn 15) then T1.set ii (y1, y2, y3, y4, y5, y6, y7) else T1).flatMap encT)) W := hS
              rw [f15, f17] at hS
              have g15 : (dn 15 || ((6 : Nat) == 15)) = false := by rw [f15]; rfl
              have g17 : (dn 17 || ((6 : Nat) == 17)) = false := by rw [f17]; rfl
              refine OpGoal.imp (S1 := fun W => W.ownsRow base TM 7 (.slice (some ⟨g, 0, none⟩) n c) n ((if false then ((T1.set ii (y1, y2, y3, y4, y5, y6, y7)).set jj (x1, x2, x3, x4, x5, x6, x7)) else if false then T1.set ii (y1, y2, y3, y4, y5, y6, y7) else T1).flatMap encT)) (fun W' h => ?_) ?_
              · show (fun W => W.ownsRow base TM 7 (.slice (some ⟨g, 0, none⟩) n c) n ((if (dn 17 || ((6 : Nat) == 17)) then ((T1.set ii (y1, y2, y3, y4, y5, y6, y7)).set jj (x1, x2, x3, x4, x5, x6, x7)) else if (dn 15 || ((6 : Nat) == 15)) then T1.set ii (y1, y2, y3, y4, y5, y6, y7) else T1).flatMap encT)) W'
                rw [g15, g17]
                exact h
              clear g15 g17 e1 e2 e3
              obtain rfl : l = [] := hl.symm.trans (by kernel_rfl)
              clear hp hl
              refine opgoal (_) (some 67) rfl rfl fun K hK => ?_
              refine Runs.mk ?_
              simp only [putAll]
              go_simp
              refine hK _ _ ?_ hS ⟨fun h => absurd h (by decide), fun h => absurd h (by decide), fun h15 h17 => ((fun w => Keep.refl _ w) W)⟩ _ rfl rfl
              first | rfl | go_simp | simp
            · -- 7: Op.binOp BinOp.add 3 (Operand.tmp 67) (Operand.const (Value.int IntKind.i64 1)) 3
              intro l hl vs W dn e1 e2 e3 hS hR hp
              have f15 : dn 15 = false := e3 15 (by kernel_rfl)
              have f17 : dn 17 = false := e3 17 (by kernel_rfl)
              replace hS : (fun W => W.ownsRow base TM 7 (.slice (some ⟨g, 0, none⟩) n c) n ((if (dn 17) then ((T1.set ii (y1, y2, y3, y4, y5, y6, y7)).set jj (x1, x2, x3, x4, x5, x6, x7)) else if (dn 15) then T1.set ii (y1, y2, y3, y4, y5, y6, y7) else T1).flatMap encT)) W := hS
              rw [f15, f17] at hS
              have g15 : (dn 15 || ((7 : Nat) == 15)) = false := by rw [f15]; rfl
              have g17 : (dn 17 || ((7 : Nat) == 17)) = false := by rw [f17]; rfl
              refine OpGoal.imp (S1 := fun W => W.ownsRow base TM 7 (.slice (some ⟨g, 0, none⟩) n c) n ((if false then ((T1.set ii (y1, y2, y3, y4, y5, y6, y7)).set jj (x1, x2, x3, x4, x5, x6, x7)) else if false then T1.set ii (y1, y2, y3, y4, y5, y6, y7) else T1).flatMap encT)) (fun W' h => ?_) ?_
              · show (fun W => W.ownsRow base TM 7 (.slice (some ⟨g, 0, none⟩) n c) n ((if (dn 17 || ((7 : Nat) == 17)) then ((T1.set ii (y1, y2, y3, y4, y5, y6, y7)).set jj (x1, x2, x3, x4, x5, x6, x7)) else if (dn 15 || ((7 : Nat) == 15)) then T1.set ii (y1, y2, y3, y4, y5, y6, y7) else T1).flatMap encT)) W'
                rw [g15, g17]
                exact h
              clear g15 g17 e1 e2 e3
              obtain rfl : l = [(6, 67)] := hl.symm.trans (by kernel_rfl)
              have p6 : vs 6 = _ := hp 6 (by decide) (by decide)
              clear hp hl
              refine opgoal (_) (some 68) rfl rfl fun K hK => ?_
              have hw := HJJ.out
              refine Runs.mk ?_
              simp only [putAll]
              go_simp
              refine hK _ _ ?_ hS ⟨fun h => absurd h (by decide), fun h => absurd h (by decide), fun h15 h17 => ((fun w => Keep.refl _ w) W)⟩ _ rfl rfl
              first | rfl | go_simp | simp
            · -- 8: Op.indexAddr 61 (Operand.tmp 66) (Operand.tmp 68)
              intro l hl vs W dn e1 e2 e3 hS hR hp
              have f15 : dn 15 = false := e3 15 (by kernel_rfl)
              have f17 : dn 17 = false := e3 17 (by kernel_rfl)
              replace hS : (fun W => W.ownsRow base TM 7 (.slice (some ⟨g, 0, none⟩) n c) n ((if (dn 17) then ((T1.set ii (y1, y2, y3, y4, y5, y6, y7)).set jj (x1, x2, x3, x4, x5, x6, x7)) else if (dn 15) then T1.set ii (y1, y2, y3, y4, y5, y6, y7) else T1).flatMap encT)) W := hS
              rw [f15, f17] at hS
              have g15 : (dn 15 || ((8 : Nat) == 15)) = false := by rw [f15]; rfl
              have g17 : (dn 17 || ((8 : Nat) == 17)) = false := by rw [f17]; rfl
              refine OpGoal.imp (S1 := fun W => W.ownsRow base TM 7 (.slice (some ⟨g, 0, none⟩) n c) n ((if false then ((T1.set ii (y1, y2, y3, y4, y5, y6, y7)).set jj (x1, x2, x3, x4, x5, x6, x7)) else if false then T1.set ii (y1, y2, y3, y4, y5, y6, y7) else T1).flatMap encT)) (fun W' h => ?_) ?_
              · show (fun W => W.ownsRow base TM 7 (.slice (some ⟨g, 0, none⟩) n c) n ((if (dn 17 || ((8 : Nat) == 17)) then ((T1.set ii (y1, y2, y3, y4, y5, y6, y7)).set jj (x1, x2, x3, x4, x5, x6, x7)) else if (dn 15 || ((8 : Nat) == 15)) then T1.set ii (y1, y2, y3, y4, y5, y6, y7) else T1).flatMap encT)) W'
                rw [g15, g17]
                exact h
              clear g15 g17 e1 e2 e3
              obtain rfl : l = [(5, 66), (6, 67), (7, 68)] := hl.symm.trans (by kernel_rfl)
              have p5 : vs 5 = _ := hp 5 (by decide) (by decide)
              have p7 : vs 7 = _ := hp 7 (by decide) (by decide)
              clear hp hl
              refine opgoal (_) (some 69) rfl rfl fun K hK => ?_
              refine Runs.mk ?_
              simp only [putAll]
              go_simp
              refine hK _ _ ?_ hS ⟨fun h => absurd h (by decide), fun h => absurd h (by decide), fun h15 h17 => ((fun w => Keep.refl _ w) W)⟩ _ rfl rfl
              first | rfl | go_simp | simp
            · -- 9: Op.load 66 (Operand.tmp 69)
              intro l hl vs W dn e1 e2 e3 hS hR hp
              have f15 : dn 15 = false := e3 15 (by kernel_rfl)
              have f17 : dn 17 = false := e3 17 (by kernel_rfl)
              replace hS : (fun W => W.ownsRow base TM 7 (.slice (some ⟨g, 0, none⟩) n c) n ((if (dn 17) then ((T1.set ii (y1, y2, y3, y4, y5, y6, y7)).set jj (x1, x2, x3, x4, x5, x6, x7)) else if (dn 15) then T1.set ii (y1, y2, y3, y4, y5, y6, y7) else T1).flatMap encT)) W := hS
              rw [f15, f17] at hS
              have g15 : (dn 15 || ((9 : Nat) == 15)) = false := by rw [f15]; rfl
              have g17 : (dn 17 || ((9 : Nat) == 17)) = false := by rw [f17]; rfl
              refine OpGoal.imp (S1 := fun W => W.ownsRow base TM 7 (.slice (some ⟨g, 0, none⟩) n c) n ((if false then ((T1.set ii (y1, y2, y3, y4, y5, y6, y7)).set jj (x1, x2, x3, x4, x5, x6, x7)) else if false then T1.set ii (y1, y2, y3, y4, y5, y6, y7) else T1).flatMap encT)) (fun W' h => ?_) ?_
              · show (fun W => W.ownsRow base TM 7 (.slice (some ⟨g, 0, none⟩) n c) n ((if (dn 17 || ((9 : Nat) == 17)) then ((T1.set ii (y1, y2, y3, y4, y5, y6, y7)).set jj (x1, x2, x3, x4, x5, x6, x7)) else if (dn 15 || ((9 : Nat) == 15)) then T1.set ii (y1, y2, y3, y4, y5, y6, y7) else T1).flatMap encT)) W'
                rw [g15, g17]
                exact h
              clear g15 g17 e1 e2 e3
              obtain rfl : l = [(5, 66), (6, 67), (7, 68), (8, 69)] := hl.symm.trans (by kernel_rfl)
              have p8 : vs 8 = _ := hp 8 (by decide) (by decide)
              clear hp hl
              refine opgoal (_) (some 70) rfl rfl fun K hK => ?_
              obtain ⟨e0, e1, e2, e3, e4, e5, e6⟩ := HCJ.out W hS
              refine Runs.mk ?_
              simp only [putAll]
              go_simp
              refine hK _ _ ?_ hS ⟨fun h => absurd h (by decide), fun h => absurd h (by decide), fun h15 h17 => ((fun w => Keep.refl _ w) W)⟩ _ rfl rfl
              first | rfl | go_simp | simp
            · -- 10: Op.move (Operand.tmp 0)
              intro l hl vs W dn e1 e2 e3 hS hR hp
              have f15 : dn 15 = false := e3 15 (by kernel_rfl)
              have f17 : dn 17 = false := e3 17 (by kernel_rfl)
              replace hS : (fun W => W.ownsRow base TM 7 (.slice (some ⟨g, 0, none⟩) n c) n ((if (dn 17) then ((T1.set ii (y1, y2, y3, y4, y5, y6, y7)).set jj (x1, x2, x3, x4, x5, x6, x7)) else if (dn 15) then T1.set ii (y1, y2, y3, y4, y5, y6, y7) else T1).flatMap encT)) W := hS
              rw [f15, f17] at hS
              have g15 : (dn 15 || ((10 : Nat) == 15)) = false := by rw [f15]; rfl
              have g17 : (dn 17 || ((10 : Nat) == 17)) = false := by rw [f17]; rfl
              refine OpGoal.imp (S1 := fun W => W.ownsRow base TM 7 (.slice (some ⟨g, 0, none⟩) n c) n ((if false then ((T1.set ii (y1, y2, y3, y4, y5, y6, y7)).set jj (x1, x2, x3, x4, x5, x6, x7)) else if false then T1.set ii (y1, y2, y3, y4, y5, y6, y7) else T1).flatMap encT)) (fun W' h => ?_) ?_
              · show (fun W => W.ownsRow base TM 7 (.slice (some ⟨g, 0, none⟩) n c) n ((if (dn 17 || ((10 : Nat) == 17)) then ((T1.set ii (y1, y2, y3, y4, y5, y6, y7)).set jj (x1, x2, x3, x4, x5, x6, x7)) else if (dn 15 || ((10 : Nat) == 15)) then T1.set ii (y1, y2, y3, y4, y5, y6, y7) else T1).flatMap encT)) W'
                rw [g15, g17]
                exact h
              clear g15 g17 e1 e2 e3
              obtain rfl : l = [] := hl.symm.trans (by kernel_rfl)
              clear hp hl
              refine opgoal (_) (some 71) rfl rfl fun K hK => ?_
              refine Runs.mk ?_
              simp only [putAll]
              go_simp
              refine hK _ _ ?_ hS ⟨fun h => absurd h (by decide), fun h => absurd h (by decide), fun h15 h17 => ((fun w => Keep.refl _ w) W)⟩ _ rfl rfl
              first | rfl | go_simp | simp
            · -- 11: Op.move (Operand.tmp 13)
              intro l hl vs W dn e1 e2 e3 hS hR hp
              have f15 : dn 15 = false := e3 15 (by kernel_rfl)
              have f17 : dn 17 = false := e3 17 (by kernel_rfl)
              replace hS : (fun W => W.ownsRow base TM 7 (.slice (some ⟨g, 0, none⟩) n c) n ((if (dn 17) then ((T1.set ii (y1, y2, y3, y4, y5, y6, y7)).set jj (x1, x2, x3, x4, x5, x6, x7)) else if (dn 15) then T1.set ii (y1, y2, y3, y4, y5, y6, y7) else T1).flatMap encT)) W := hS
              rw [f15, f17] at hS
              have g15 : (dn 15 || ((11 : Nat) == 15)) = false := by rw [f15]; rfl
              have g17 : (dn 17 || ((11 : Nat) == 17)) = false := by rw [f17]; rfl
              refine OpGoal.imp (S1 := fun W => W.ownsRow base TM 7 (.slice (some ⟨g, 0, none⟩) n c) n ((if false then ((T1.set ii (y1, y2, y3, y4, y5, y6, y7)).set jj (x1, x2, x3, x4, x5, x6, x7)) else if false then T1.set ii (y1, y2, y3, y4, y5, y6, y7) else T1).flatMap encT)) (fun W' h => ?_) ?_
              · show (fun W => W.ownsRow base TM 7 (.slice (some ⟨g, 0, none⟩) n c) n ((if (dn 17 || ((11 : Nat) == 17)) then ((T1.set ii (y1, y2, y3, y4, y5, y6, y7)).set jj (x1, x2, x3, x4, x5, x6, x7)) else if (dn 15 || ((11 : Nat) == 15)) then T1.set ii (y1, y2, y3, y4, y5, y6, y7) else T1).flatMap encT)) W'
                rw [g15, g17]
                exact h
              clear g15 g17 e1 e2 e3
              obtain rfl : l = [] := hl.symm.trans (by kernel_rfl)
              clear hp hl
              refine opgoal (_) (some 72) rfl rfl fun K hK => ?_
              refine Runs.mk ?_
              simp only [putAll]
              go_simp
              refine hK _ _ ?_ hS ⟨fun h => absurd h (by decide), fun h => absurd h (by decide), fun h15 h17 => ((fun w => Keep.refl _ w) W)⟩ _ rfl rfl
              first | rfl | go_simp | simp
            · -- 12: Op.indexAddr 61 (Operand.tmp 71) (Operand.tmp 72)
              intro l hl vs W dn e1 e2 e3 hS hR hp
              have f15 : dn 15 = false := e3 15 (by kernel_rfl)
              have f17 : dn 17 = false := e3 17 (by kernel_rfl)
              replace hS : (fun W => W.ownsRow base TM 7 (.slice (some ⟨g, 0, none⟩) n c) n ((if (dn 17) then ((T1.set ii (y1, y2, y3, y4, y5, y6, y7)).set jj (x1, x2, x3, x4, x5, x6, x7)) else if (dn 15) then T1.set ii (y1, y2, y3, y4, y5, y6, y7) else T1).flatMap encT)) W := hS
              rw [f15, f17] at hS
              have g15 : (dn 15 || ((12 : Nat) == 15)) = false := by rw [f15]; rfl
              have g17 : (dn 17 || ((12 : Nat) == 17)) = false := by rw [f17]; rfl
              refine OpGoal.imp (S1 := fun W => W.ownsRow base TM 7 (.slice (some ⟨g, 0, none⟩) n c) n ((if false then ((T1.set ii (y1, y2, y3, y4, y5, y6, y7)).set jj (x1, x2, x3, x4, x5, x6, x7)) else if false then T1.set ii (y1, y2, y3, y4, y5, y6, y7) else T1).flatMap encT)) (fun W' h => ?_) ?_
              · show (fun W => W.ownsRow base TM 7 (.slice (some ⟨g, 0, none⟩) n c) n ((if (dn 17 || ((12 : Nat) == 17)) then ((T1.set ii (y1, y2, y3, y4, y5, y6, y7)).set jj (x1, x2, x3, x4, x5, x6, x7)) else if (dn 15 || ((12 : Nat) == 15)) then T1.set ii (y1, y2, y3, y4, y5, y6, y7) else T1).flatMap encT)) W'
                rw [g15, g17]
                exact h
              clear g15 g17 e1 e2 e3
              obtain rfl : l = [(10, 71), (11, 72)] := hl.symm.trans (by kernel_rfl)
              have p10 : vs 10 = _ := hp 10 (by decide) (by decide)
              have p11 : vs 11 = _ := hp 11 (by decide) (by decide)
              clear hp hl
              refine opgoal (_) (some 73) rfl rfl fun K hK => ?_
              refine Runs.mk ?_
              simp only [putAll]
              go_simp
              refine hK _ _ ?_ hS ⟨fun h => absurd h (by decide), fun h => absurd h (by decide), fun h15 h17 => ((fun w => Keep.refl _ w) W)⟩ _ rfl rfl
              first | rfl | go_simp | simp
            · -- 13: Op.load 66 (Operand.tmp 73)
              intro l hl vs W dn e1 e2 e3 hS hR hp
              have f15 : dn 15 = false := e3 15 (by kernel_rfl)
              have f17 : dn 17 = false := e3 17 (by kernel_rfl)
              replace hS : (fun W => W.ownsRow base TM 7 (.slice (some ⟨g, 0, none⟩) n c) n ((if (dn 17) then ((T1.set ii (y1, y2, y3, y4, y5, y6, y7)).set jj (x1, x2, x3, x4, x5, x6, x7)) else if (dn 15) then T1.set ii (y1, y2, y3, y4, y5, y6, y7) else T1).flatMap encT)) W := hS
              rw [f15, f17] at hS
              have g15 : (dn 15 || ((13 : Nat) == 15)) = false := by rw [f15]; rfl
              have g17 : (dn 17 || ((13 : Nat) == 17)) = false := by rw [f17]; rfl
              refine OpGoal.imp (S1 := fun W => W.ownsRow base TM 7 (.slice (some ⟨g, 0, none⟩) n c) n ((if false then ((T1.set ii (y1, y2, y3, y4, y5, y6, y7)).set jj (x1, x2, x3, x4, x5, x6, x7)) else if false then T1.set ii (y1, y2, y3, y4, y5, y6, y7) else T1).flatMap encT)) (fun W' h => ?_) ?_
              · show (fun W => W.ownsRow base TM 7 (.slice (some ⟨g, 0, none⟩) n c) n ((if (dn 17 || ((13 : Nat) == 17)) then ((T1.set ii (y1, y2, y3, y4, y5, y6, y7)).set jj (x1, x2, x3, x4, x5, x6, x7)) else if (dn 15 || ((13 : Nat) == 15)) then T1.set ii (y1, y2, y3, y4, y5, y6, y7) else T1).flatMap encT)) W'
                rw [g15, g17]
                exact h
              clear g15 g17 e1 e2 e3
              obtain rfl : l = [(10, 71), (11, 72), (12, 73)] := hl.symm.trans (by kernel_rfl)
              have p12 : vs 12 = _ := hp 12 (by decide) (by decide)
              clear hp hl
              refine opgoal (_) (some 74) rfl rfl fun K hK => ?_
              obtain ⟨e0, e1, e2, e3, e4, e5, e6⟩ := HCI.out W hS
              refine Runs.mk ?_
              simp only [putAll]
              go_simp
              refine hK _ _ ?_ hS ⟨fun h => absurd h (by decide), fun h => absurd h (by decide), fun h15 h17 => ((fun w => Keep.refl _ w) W)⟩ _ rfl rfl
              first | rfl | go_simp | simp
            · -- 14: Op.indexAddr 61 (Operand.tmp 61) (Operand.tmp 62)
              intro l hl vs W dn e1 e2 e3 hS hR hp
              have f15 : dn 15 = false := e3 15 (by kernel_rfl)
              have f17 : dn 17 = false := e3 17 (by kernel_rfl)
              replace hS : (fun W => W.ownsRow base TM 7 (.slice (some ⟨g, 0, none⟩) n c) n ((if (dn 17) then ((T1.set ii (y1, y2, y3, y4, y5, y6, y7)).set jj (x1, x2, x3, x4, x5, x6, x7)) else if (dn 15) then T1.set ii (y1, y2, y3, y4, y5, y6, y7) else T1).flatMap encT)) W := hS
              rw [f15, f17] at hS
              have g15 : (dn 15 || ((14 : Nat) == 15)) = false := by rw [f15]; rfl
              have g17 : (dn 17 || ((14 : Nat) == 17)) = false := by rw [f17]; rfl
              refine OpGoal.imp (S1 := fun W => W.ownsRow base TM 7 (.slice (some ⟨g, 0, none⟩) n c) n ((if false then ((T1.set ii (y1, y2, y3, y4, y5, y6, y7)).set jj (x1, x2, x3, x4, x5, x6, x7)) else if false then T1.set ii (y1, y2, y3, y4, y5, y6, y7) else T1).flatMap encT)) (fun W' h => ?_) ?_
              · show (fun W => W.ownsRow base TM 7 (.slice (some ⟨g, 0, none⟩) n c) n ((if (dn 17 || ((14 : Nat) == 17)) then ((T1.set ii (y1, y2, y3, y4, y5, y6, y7)).set jj (x1, x2, x3, x4, x5, x6, x7)) else if (dn 15 || ((14 : Nat) == 15)) then T1.set ii (y1, y2, y3, y4, y5, y6, y7) else T1).flatMap encT)) W'
                rw [g15, g17]
                exact h
              clear g15 g17 e1 e2 e3
              obtain rfl : l = [(0, 61), (1, 62), (5, 66), (6, 67), (7, 68), (8, 69), (9, 70), (10, 71), (11, 72), (12, 73), (13, 74)] := hl.symm.trans (by kernel_rfl)
              have p0 : vs 0 = _ := hp 0 (by decide) (by decide)
              have p1 : vs 1 = _ := hp 1 (by decide) (by decide)
              clear hp hl
              refine opgoal (_) (some 75) rfl rfl fun K hK => ?_
              refine Runs.mk ?_
              simp only [putAll]
              go_simp
              refine hK _ _ ?_ hS ⟨fun h => absurd h (by decide), fun h => absurd h (by decide), fun h15 h17 => ((fun w => Keep.refl _ w) W)⟩ _ rfl rfl
              first | rfl | go_simp | simp
            · -- 15: Op.store 66 (Operand.tmp 75) (Operand.tmp 70)
              intro l hl vs W dn e1 e2 e3 hS hR hp
              have f15 : dn 15 = false := e1
              have f17 : dn 17 = false := e3 17 (by kernel_rfl)
              replace hS : (fun W => W.ownsRow base TM 7 (.slice (some ⟨g, 0, none⟩) n c) n ((if (dn 17) then ((T1.set ii (y1, y2, y3, y4, y5, y6, y7)).set jj (x1, x2, x3, x4, x5, x6, x7)) else if (dn 15) then T1.set ii (y1, y2, y3, y4, y5, y6, y7) else T1).flatMap encT)) W := hS
              rw [f15, f17] at hS
              have g15 : (dn 15 || ((15 : Nat) == 15)) = true := by rw [f15]; rfl
              have g17 : (dn 17 || ((15 : Nat) == 17)) = false := by rw [f17]; rfl
              refine OpGoal.imp (S1 := fun W => W.ownsRow base TM 7 (.slice (some ⟨g, 0, none⟩) n c) n ((if false then ((T1.set ii (y1, y2, y3, y4, y5, y6, y7)).set jj (x1, x2, x3, x4, x5, x6, x7)) else if true then T1.set ii (y1, y2, y3, y4, y5, y6, y7) else T1).flatMap encT)) (fun W' h => ?_) ?_
              · show (fun W => W.ownsRow base TM 7 (.slice (some ⟨g, 0, none⟩) n c) n ((if (dn 17 || ((15 : Nat) == 17)) then ((T1.set ii (y1, y2, y3, y4, y5, y6, y7)).set jj (x1, x2, x3, x4, x5, x6, x7)) else if (dn 15 || ((15 : Nat) == 15)) then T1.set ii (y1, y2, y3, y4, y5, y6, y7) else T1).flatMap encT)) W'
                rw [g15, g17]
                exact h
              clear g15 g17 e1 e2 e3
              obtain rfl : l = [(0, 61), (1, 62), (5, 66), (6, 67), (7, 68), (8, 69), (9, 70), (10, 71), (11, 72), (12, 73), (13, 74), (14, 75)] := hl.symm.trans (by kernel_rfl)
              have p9 : vs 9 = _ := hp 9 (by decide) (by decide)
              have p14 : vs 14 = _ := hp 14 (by decide) (by decide)
              clear hp hl
              refine opgoal ({ dst := none, op := Op.store 66 (Operand.tmp 75) (Operand.tmp 70), type := 0, pos := "zsortanyfunc.go:398", after := #[{ on := 14, ground := Ground.data }, { on := 9, ground := Ground.data }, { on := 0, ground := Ground.phase }, { on := 1, ground := Ground.phase }, { on := 2, ground := Ground.textOnly Departure.lateStores }, { on := 3, ground := Ground.textOnly Departure.lateStores }, { on := 4, ground := Ground.textOnly Departure.lateStores }, { on := 5, ground := Ground.phase }, { on := 6, ground := Ground.phase }, { on := 7, ground := Ground.phase }, { on := 8, ground := Ground.phase }, { on := 9, ground := Ground.phase }, { on := 10, ground := Ground.textOnly Departure.lateStores }, { on := 11, ground := Ground.textOnly Departure.lateStores }, { on := 12, ground := Ground.textOnly Departure.lateStoresUnsure }, { on := 13, ground := Ground.phase }], guard := none }) (none) rfl rfl fun K hK => ?_
              obtain ⟨cur, hcur, hcs, hput⟩ := own_setT hS HL0.out hii (y1, y2, y3, y4, y5, y6, y7)
              refine runs_store_blk (wanted_none rfl) TM (.tmp 75) (.tmp 70) rfl g (ii * 7) (eval_putAll (j := 14) (by simp) (by decide) (by intro k hk; simpa using hk) p14) TM cur (.agg #[.int .i64 y1, .int .i64 y2, .int .i64 y3, .int .i64 y4, .int .i64 y5, .int .i64 y6, .int .i64 y7]) (eval_putAll (j := 9) (by simp) (by decide) (by intro k hk; simpa using hk) p9) hcur (by kernel_rfl) hcs (by simp [Value.cells, Value.oneCell']) _ rfl ?_
              intro w5 hg5 hu5
              have hkk := keep_upd hu5
              exact hK undef _ trivial (hput w5 hg5) ⟨(fun _ => hkk), (fun h => absurd h (by decide)), fun h1 h2 => absurd rfl h1⟩ _ put_dfs rfl
            · -- 16: Op.indexAddr 61 (Operand.tmp 63) (Operand.tmp 65)
              intro l hl vs W dn e1 e2 e3 hS hR hp
              have f15 : dn 15 = true := e2 15 (by kernel_rfl)
              have f17 : dn 17 = false := e3 17 (by kernel_rfl)
              replace hS : (fun W => W.ownsRow base TM 7 (.slice (some ⟨g, 0, none⟩) n c) n ((if (dn 17) then ((T1.set ii (y1, y2, y3, y4, y5, y6, y7)).set jj (x1, x2, x3, x4, x5, x6, x7)) else if (dn 15) then T1.set ii (y1, y2, y3, y4, y5, y6, y7) else T1).flatMap encT)) W := hS
              rw [f15, f17] at hS
              have g15 : (dn 15 || ((16 : Nat) == 15)) = true := by rw [f15]; rfl
              have g17 : (dn 17 || ((16 : Nat) == 17)) = false := by rw [f17]; rfl
              refine OpGoal.imp (S1 := fun W => W.ownsRow base TM 7 (.slice (some ⟨g, 0, none⟩) n c) n ((if false then ((T1.set ii (y1, y2, y3, y4, y5, y6, y7)).set jj (x1, x2, x3, x4, x5, x6, x7)) else if true then T1.set ii (y1, y2, y3, y4, y5, y6, y7) else T1).flatMap encT)) (fun W' h => ?_) ?_
              · show (fun W => W.ownsRow base TM 7 (.slice (some ⟨g, 0, none⟩) n c) n ((if (dn 17 || ((16 : Nat) == 17)) then ((T1.set ii (y1, y2, y3, y4, y5, y6, y7)).set jj (x1, x2, x3, x4, x5, x6, x7)) else if (dn 15 || ((16 : Nat) == 15)) then T1.set ii (y1, y2, y3, y4, y5, y6, y7) else T1).flatMap encT)) W'
                rw [g15, g17]
                exact h
              clear g15 g17 e1 e2 e3
              obtain rfl : l = [(0, 61), (1, 62), (2, 63), (3, 64), (4, 65), (5, 66), (6, 67), (7, 68), (8, 69), (9, 70), (10, 71), (11, 72), (12, 73), (13, 74), (14, 75)] := hl.symm.trans (by kernel_rfl)
              have p2 : vs 2 = _ := hp 2 (by decide) (by decide)
              have p4 : vs 4 = _ := hp 4 (by decide) (by decide)
              clear hp hl
              refine opgoal (_) (some 76) rfl rfl fun K hK => ?_
              refine Runs.mk ?_
              simp only [putAll]
              go_simp
              refine hK _ _ ?_ hS ⟨fun h => absurd h (by decide), fun h => absurd h (by decide), fun h15 h17 => ((fun w => Keep.refl _ w) W)⟩ _ rfl rfl
              first | rfl | go_simp | simp
            · -- 17: Op.store 66 (Operand.tmp 76) (Operand.tmp 74)
              intro l hl vs W dn e1 e2 e3 hS hR hp
              have f15 : dn 15 = true := e2 15 (by kernel_rfl)
              have f17 : dn 17 = false := e1
              replace hS : (fun W => W.ownsRow base TM 7 (.slice (some ⟨g, 0, none⟩) n c) n ((if (dn 17) then ((T1.set ii (y1, y2, y3, y4, y5, y6, y7)).set jj (x1, x2, x3, x4, x5, x6, x7)) else if (dn 15) then T1.set ii (y1, y2, y3, y4, y5, y6, y7) else T1).flatMap encT)) W := hS
              rw [f15, f17] at hS
              have g15 : (dn 15 || ((17 : Nat) == 15)) = true := by rw [f15]; rfl
              have g17 : (dn 17 || ((17 : Nat) == 17)) = true := by rw [f17]; rfl
              refine OpGoal.imp (S1 := fun W => W.ownsRow base TM 7 (.slice (some ⟨g, 0, none⟩) n c) n ((if true then ((T1.set ii (y1, y2, y3, y4, y5, y6, y7)).set jj (x1, x2, x3, x4, x5, x6, x7)) else if true then T1.set ii (y1, y2, y3, y4, y5, y6, y7) else T1).flatMap encT)) (fun W' h => ?_) ?_
              · show (fun W => W.ownsRow base TM 7 (.slice (some ⟨g, 0, none⟩) n c) n ((if (dn 17 || ((17 : Nat) == 17)) then ((T1.set ii (y1, y2, y3, y4, y5, y6, y7)).set jj (x1, x2, x3, x4, x5, x6, x7)) else if (dn 15 || ((17 : Nat) == 15)) then T1.set ii (y1, y2, y3, y4, y5, y6, y7) else T1).flatMap encT)) W'
                rw [g15, g17]
                exact h
              clear g15 g17 e1 e2 e3
              obtain rfl : l = [(0, 61), (1, 62), (2, 63), (3, 64), (4, 65), (5, 66), (6, 67), (7, 68), (8, 69), (9, 70), (10, 71), (11, 72), (12, 73), (13, 74), (14, 75), (16, 76)] := hl.symm.trans (by kernel_rfl)
              have p13 : vs 13 = _ := hp 13 (by decide) (by decide)
              have p16 : vs 16 = _ := hp 16 (by decide) (by decide)
              clear hp hl
              refine opgoal ({ dst := none, op := Op.store 66 (Operand.tmp 76) (Operand.tmp 74), type := 0, pos := "zsortanyfunc.go:398", after := #[{ on := 16, ground := Ground.data }, { on := 13, ground := Ground.data }, { on := 15, ground := Ground.chain }, { on := 0, ground := Ground.phase }, { on := 1, ground := Ground.phase }, { on := 2, ground := Ground.phase }, { on := 3, ground := Ground.phase }, { on := 4, ground := Ground.phase }, { on := 5, ground := Ground.phase }, { on := 6, ground := Ground.phase }, { on := 7, ground := Ground.phase }, { on := 8, ground := Ground.phase }, { on := 9, ground := Ground.phase }, { on := 10, ground := Ground.phase }, { on := 11, ground := Ground.phase }, { on := 12, ground := Ground.phase }, { on := 13, ground := Ground.phase }, { on := 14, ground := Ground.phase }, { on := 15, ground := Ground.phase }], guard := none }) (none) rfl rfl fun K hK => ?_
              obtain ⟨cur, hcur, hcs, hput⟩ := own_setT hS HL1.out hjj (x1, x2, x3, x4, x5, x6, x7)
              refine runs_store_blk (wanted_none rfl) TM (.tmp 76) (.tmp 74) rfl g (jj * 7) (eval_putAll (j := 16) (by simp) (by decide) (by intro k hk; simpa using hk) p16) TM cur (.agg #[.int .i64 x1, .int .i64 x2, .int .i64 x3, .int .i64 x4, .int .i64 x5, .int .i64 x6, .int .i64 x7]) (eval_putAll (j := 13) (by simp) (by decide) (by intro k hk; simpa using hk) p13) hcur (by kernel_rfl) hcs (by simp [Value.cells, Value.oneCell']) _ rfl ?_
              intro w5 hg5 hu5
              have hkk := keep_upd hu5
              exact hK undef _ trivial (hput w5 hg5) ⟨(fun h => absurd h (by decide)), (fun _ => hkk), fun h1 h2 => absurd rfl h2⟩ _ put_dfs rfl
          · intro l hl vs W dn hd hS hR hp
            replace hS : (fun W => W.ownsRow base TM 7 (.slice (some ⟨g, 0, none⟩) n c) n ((if (dn 17) then ((T1.set ii (y1, y2, y3, y4, y5, y6, y7)).set jj (x1, x2, x3, x4, x5, x6, x7)) else if (dn 15) then T1.set ii (y1, y2, y3, y4, y5, y6, y7) else T1).flatMap encT)) W := hS
            rw [hd 15 (by decide), hd 17 (by decide)] at hS
            obtain rfl : l = [(0, 61), (1, 62), (2, 63), (3, 64), (4, 65), (5, 66), (6, 67), (7, 68), (8, 69), (9, 70), (10, 71), (11, 72), (12, 73), (13, 74), (14, 75), (16, 76)] := hl.symm.trans (by kernel_rfl)
            have p0 : vs 0 = _ := hp 0 (by decide) (by decide)
            have p1 : vs 1 = _ := hp 1 (by decide) (by decide)
            have p2 : vs 2 = _ := hp 2 (by decide) (by decide)
            have p3 : vs 3 = _ := hp 3 (by decide) (by decide)
            have p4 : vs 4 = _ := hp 4 (by decide) (by decide)
            have p5 : vs 5 = _ := hp 5 (by decide) (by decide)
            have p6 : vs 6 = _ := hp 6 (by decide) (by decide)
            have p7 : vs 7 = _ := hp 7 (by decide) (by decide)
            have p8 : vs 8 = _ := hp 8 (by decide) (by decide)
            have p9 : vs 9 = _ := hp 9 (by decide) (by decide)
            have p10 : vs 10 = _ := hp 10 (by decide) (by decide)
            have p11 : vs 11 = _ := hp 11 (by decide) (by decide)
            have p12 : vs 12 = _ := hp 12 (by decide) (by decide)
            have p13 : vs 13 = _ := hp 13 (by decide) (by decide)
            have p14 : vs 14 = _ := hp 14 (by decide) (by decide)
            have p16 : vs 16 = _ := hp 16 (by decide) (by decide)
            clear hp hl
            simp only [putAll_mk, setAll, List.setIfInBounds_toArray, List.set_cons_succ, List.set_cons_zero, p0, p1, p2, p3, p4, p5, p6, p7, p8, p9, p10, p11, p12, p13, p14, p16]
            replace hS : W.ownsRow base TM 7 (.slice (some ⟨g, 0, none⟩) n c) n (((T1.set ii (y1, y2, y3, y4, y5, y6, y7)).set jj (x1, x2, x3, x4, x5, x6, x7)).flatMap encT) := hS
            have HS := Lib.hid hS
            have HR := Lib.hid hR
            clear hS hR hS0
            go_wp2_with fail
            go_roundg (R - 1 - a0 - (k + 1))
            case measure => omega
            case rel => exact ⟨k + 1, rfl, by rw [HJE.out], by omega, Lib.hid ⟨by rw [HN.out]; exact HS.out, HI.out.2.trans ((Keep.refl [g] wr).drew.trans HR.out)⟩⟩
        · obtain rfl : k = R - 1 - a0 := by omega
          have d2 : decide ((ii : Int) < (R : Int) - 1) = false := by simp; omega
          clear hii0
          go_wp2_with fail
          refine bodyPost_ret (results_none rfl _ _ _) rfl ?_
          exact ⟨rfl, HI.out.1, HI.out.2⟩
set_option maxHeartbeats 16000000 in
set_option maxRecDepth 100000 in
theorem sym2_any (base g c n a0 m0 : Nat) (T0 : List Tm) (w W0 : World) (h : Srt base g c n w W0 T0) (hn : n ≤ 1000000) (hab : a0 + 1 < m0) (hb : m0 + 1 ≤ n) :
    Calls Try.prog 39 #[.slice (some ⟨g, 0, none⟩) n c, .int .i64 a0, .int .i64 m0, .int .i64 ((m0 + 1 : Nat) : Int), .func (.func 31) #[] #[]] W0 fun e w' => e = .returned (.tuple #[]) ∧ Srt base g c n w w' (downB T0 m0 (m0 - bs (fun h => !(ltAt T0 m0 h)) a0 m0)) := by
  have HH := Lib.hid h
  have HL := Lib.hid h.len
  have hbd := bodied_cmp1
  unfold Bodied at hbd
  obtain ⟨b0, hb0⟩ : ∃ b0, m0 + 1 = b0 := ⟨_, rfl⟩
  rw [hb0]
  have e2 : (b0 : Int) - (m0 : Int) = 1 := by omega
  obtain ⟨dd, hdd⟩ : ∃ dd, m0 - a0 = dd := ⟨_, rfl⟩
  have e1 : (m0 : Int) - (a0 : Int) = (dd : Int) := by omega
  have e3 : ((dd : Int) == 1) = false := by simp; omega
  have e4 : (dd == 1) = false := by simp; omega
  have e5 : decide ((dd : Int) = 1) = false := by simp; omega
  have e6 : decide (dd = 1) = false := by simp; omega
  have e7 : ¬ dd = 1 := by omega
  obtain ⟨R, hR⟩ : ∃ R, bs (fun h => !(ltAt T0 m0 h)) a0 m0 = R := ⟨_, rfl⟩
  rw [hR]
  have HR : Hid (R = bsG (fun h => !(ltAt T0 m0 h)) (m0 - a0 + 1) a0 m0 ∧ a0 ≤ R ∧ R ≤ m0) := Lib.hid (by
    have := bsG_range (fun h => !(ltAt T0 m0 h)) (m0 - a0 + 1) a0 m0 (by omega)
    rw [← hR]
    exact ⟨rfl, this⟩)
  have hmb : a0 ≤ m0 := by omega
  have hmn : m0 < n := by omega
  clear h hb0 hR hab hdd
  go_enter Try.func39, Try.ntmps39
  go_wp2_with fail
  clear e1 e2 e3 e4 e5 e6 e7
  go_loopg [14, 15] (m0 - a0) (fun gk iv jv wr => ∃ (i j : Nat), gk = j - i ∧ iv = .int .i64 i ∧ jv = .int .i64 j ∧ i ≤ j ∧ a0 ≤ i ∧ j ≤ m0 ∧ Hid (Srt base g c n w wr T0 ∧ ∃ f, j - i < f ∧ R = bsG (fun h => !(ltAt T0 m0 h)) f i j))
  case atStart => exact ⟨a0, m0, rfl, rfl, rfl, hmb, Nat.le_refl _, Nat.le_refl _, Lib.hid ⟨HH.out, m0 - a0 + 1, by omega, HR.out.1⟩⟩
  case round =>
    obtain ⟨i, j, hgk, rfl, rfl, hij, hmi, hjb, HI⟩ := hrel
    by_cases hlt : i < j
    · have d1 : decide ((i : Int) < (j : Int)) = true := by simp; omega
      have d1n : decide (i < j) = true := by simpa using hlt
      obtain ⟨hh, hhe⟩ : ∃ hh, (i + j) / 2 = hh := ⟨_, rfl⟩
      have eh : ((i : Int) + (j : Int)) / 2 = (hh : Int) := by omega
      have hhn : hh < n := by omega
      have HHB : Hid (i ≤ hh ∧ hh < j) := Lib.hid (by omega)
      have hl0 := HI.out.1.len
      obtain ⟨x, hx⟩ : ∃ x, T0[m0]? = some x := ⟨_, List.getElem?_eq_getElem (by omega)⟩
      obtain ⟨y, hy⟩ : ∃ y, T0[hh]? = some y := ⟨_, List.getElem?_eq_getElem (by omega)⟩
      obtain ⟨q, hq⟩ : ∃ q, lt x y = q := ⟨_, rfl⟩
      have hla : ltAt T0 m0 hh = q := by rw [ltAt_at hx hy]; exact hq
      have HTRUE : Hid (q = false → ∃ f, j - (hh + 1) < f ∧ R = bsG (fun h => !(ltAt T0 m0 h)) f (hh + 1) j) := Lib.hid fun e => by
        obtain ⟨f, hf, hr⟩ := HI.out.2
        obtain ⟨f', rfl⟩ : ∃ f', f = f' + 1 := ⟨f - 1, by omega⟩
        refine ⟨f', by omega, ?_⟩
        rw [hr, bsG, if_pos hlt, hhe, if_pos (by simp [hla, e])]
      have HFALSE : Hid (q = true → ∃ f, hh - i < f ∧ R = bsG (fun h => !(ltAt T0 m0 h)) f i hh) := Lib.hid fun e => by
        obtain ⟨f, hf, hr⟩ := HI.out.2
        obtain ⟨f', rfl⟩ : ∃ f', f = f' + 1 := ⟨f - 1, by omega⟩
        refine ⟨f', by omega, ?_⟩
        rw [hr, bsG, if_pos hlt, hhe, if_neg (by simp [hla, e])]
      have HCMP := Lib.hid fun W => cmp1 x y W
      obtain ⟨cv, hcv⟩ : ∃ cv, cmpT x y = cv := ⟨_, rfl⟩
      have HQ : Hid (decide (cv < 0) = q) := Lib.hid (by rw [← hcv, cmp_lt]; exact hq)
      rw [hcv] at HCMP
      have HCX := Lib.hid (fun (W : World) (h : W.ownsRow base TM 7 (.slice (some ⟨g, 0, none⟩) n c) n (T0.flatMap encT)) => own_getT h hx)
      have HCY := Lib.hid (fun (W : World) (h : W.ownsRow base TM 7 (.slice (some ⟨g, 0, none⟩) n c) n (T0.flatMap encT)) => own_getT h hy)
      have hS0 : Srt base g c n w wr.drew T0 := HI.out.1.below (below_drewN 1 wr)
      have HS0 := Lib.hid hS0
      have hhI : (hh : Int) < (n : Int) := by omega
      have haI : (m0 : Int) < (n : Int) := by omega
      have haN : m0 < n := by omega
      obtain ⟨x1, x2, x3, x4, x5, x6, x7⟩ := x
      obtain ⟨y1, y2, y3, y4, y5, y6, y7⟩ := y
      dsimp only [aggT] at HCX HCY HCMP
      clear hS0 hx hy hl0 hq hcv hla hlt hhe
      go_wp2_with fail
      have hS0 := HS0.out
      clear eh d1 d1n
      have hb1 := HHB.out.1
      have hb2 := HHB.out.2
      refine wp_region_one (fun W => Srt base g c n w W T0) (fun u v => Below u.heap.size u v) (fun a i => match i with
          | 0 => (fun v _ => v = .func (.func 31) #[] #[])
          | 1 => (fun v _ => v = .slice (some ⟨g, 0, none⟩) n c)
          | 2 => (fun v _ => v = .int .i64 (m0 : Int))
          | 3 => (fun v _ => v = .pointer (some ⟨g, m0 * 7, none⟩))
          | 4 => (fun v _ => v = .agg #[.int .i64 x1, .int .i64 x2, .int .i64 x3, .int .i64 x4, .int .i64 x5, .int .i64 x6, .int .i64 x7])
          | 5 => (fun v _ => v = .slice (some ⟨g, 0, none⟩) n c)
          | 6 => (fun v _ => v = .int .i64 (hh : Int))
          | 7 => (fun v _ => v = .pointer (some ⟨g, hh * 7, none⟩))
          | 8 => (fun v _ => v = .agg #[.int .i64 y1, .int .i64 y2, .int .i64 y3, .int .i64 y4, .int .i64 y5, .int .i64 y6, .int .i64 y7])
          | 9 => (fun v _ => v = .int .i64 cv)
          | 10 => (fun v _ => v = .bool q)
          | 11 => (fun v _ => v = .bool (!q))
          | _ => (fun _ _ => True)) #[0, 0, 0, 6, 14, 0, 0, 96, 224, 511, 1023, 2047] #[0, 0, 0, 6, 8, 0, 0, 96, 128, 273, 512, 1024] 4095 (by kernel_rfl) 12 rfl (fun m hm => by subst hm; kernel_rfl) (by kernel_rfl) (fun w => Below.refl _ w) (fun u v w h1 h2 => below2 h1 h2) ?_ (hS0) ?_ ?_
      · intro i hi
        rcases (by omega : i = 0 ∨ i = 1 ∨ i = 2 ∨ i = 3 ∨ i = 4 ∨ i = 5 ∨ i = 6 ∨ i = 7 ∨ i = 8 ∨ i = 9 ∨ i = 10 ∨ i = 11) with rfl | rfl | rfl | rfl | rfl | rfl | rfl | rfl | rfl | rfl | rfl | rfl
        · exact fun v w w' h hr => by exact h
        · exact fun v w w' h hr => by exact h
        · exact fun v w w' h hr => by exact h
        · exact fun v w w' h hr => by exact h
        · exact fun v w w' h hr => by exact h
        · exact fun v w w' h hr => by exact h
        · exact fun v w w' h hr => by exact h
        · exact fun v w w' h hr => by exact h
        · exact fun v w w' h hr => by exact h
        · exact fun v w w' h hr => by exact h
        · exact fun v w w' h hr => by exact h
        · exact fun v w w' h hr => by exact h
      · intro i hi
        rcases (by omega : i = 0 ∨ i = 1 ∨ i = 2 ∨ i = 3 ∨ i = 4 ∨ i = 5 ∨ i = 6 ∨ i = 7 ∨ i = 8 ∨ i = 9 ∨ i = 10 ∨ i = 11) with rfl | rfl | rfl | rfl | rfl | rfl | rfl | rfl | rfl | rfl | rfl | rfl
        · -- 0: Op.move (Operand.tmp 4)
          intro l hl vs W hS hR hp
          obtain rfl : l = [] := hl.symm.trans (by kernel_rfl)
          clear hp hl
          refine opgoal (_) (some 92) rfl rfl fun K hK => ?_
          refine Runs.mk ?_
          simp only [putAll]
          go_simp
          refine hK _ _ ?_ hS ((fun w => Below.refl _ w) W) _ rfl rfl
          first | rfl | go_simp | simp
        · -- 1: Op.move (Operand.tmp 0)
          intro l hl vs W hS hR hp
          obtain rfl : l = [] := hl.symm.trans (by kernel_rfl)
          clear hp hl
          refine opgoal (_) (some 93) rfl rfl fun K hK => ?_
          refine Runs.mk ?_
          simp only [putAll]
          go_simp
          refine hK _ _ ?_ hS ((fun w => Below.refl _ w) W) _ rfl rfl
          first | rfl | go_simp | simp
        · -- 2: Op.move (Operand.tmp 2)
          intro l hl vs W hS hR hp
          obtain rfl : l = [] := hl.symm.trans (by kernel_rfl)
          clear hp hl
          refine opgoal (_) (some 94) rfl rfl fun K hK => ?_
          refine Runs.mk ?_
          simp only [putAll]
          go_simp
          refine hK _ _ ?_ hS ((fun w => Below.refl _ w) W) _ rfl rfl
          first | rfl | go_simp | simp
        · -- 3: Op.indexAddr 61 (Operand.tmp 93) (Operand.tmp 94)
          intro l hl vs W hS hR hp
          obtain rfl : l = [(1, 93), (2, 94)] := hl.symm.trans (by kernel_rfl)
          have p1 : vs 1 = _ := hp 1 (by decide) (by decide)
          have p2 : vs 2 = _ := hp 2 (by decide) (by decide)
          clear hp hl
          refine opgoal (_) (some 95) rfl rfl fun K hK => ?_
          refine Runs.mk ?_
          simp only [putAll]
          go_simp
          refine hK _ _ ?_ hS ((fun w => Below.refl _ w) W) _ rfl rfl
          first | rfl | go_simp | simp
        · -- 4: Op.load 66 (Operand.tmp 95)
          intro l hl vs W hS hR hp
          obtain rfl : l = [(1, 93), (2, 94), (3, 95)] := hl.symm.trans (by kernel_rfl)
          have p3 : vs 3 = _ := hp 3 (by decide) (by decide)
          clear hp hl
          refine opgoal (_) (some 96) rfl rfl fun K hK => ?_
          obtain ⟨e0, e1, e2, e3, e4, e5, e6⟩ := HCX.out W hS.1
          refine Runs.mk ?_
          simp only [putAll]
          go_simp
          refine hK _ _ ?_ hS ((fun w => Below.refl _ w) W) _ rfl rfl
          first | rfl | go_simp | simp
        · -- 5: Op.move (Operand.tmp 0)
          intro l hl vs W hS hR hp
          obtain rfl : l = [] := hl.symm.trans (by kernel_rfl)
          clear hp hl
          refine opgoal (_) (some 97) rfl rfl fun K hK => ?_
          refine Runs.mk ?_
          simp only [putAll]
          go_simp
          refine hK _ _ ?_ hS ((fun w => Below.refl _ w) W) _ rfl rfl
          first | rfl | go_simp | simp
        · -- 6: Op.move (Operand.tmp 16)
          intro l hl vs W hS hR hp
          obtain rfl : l = [] := hl.symm.trans (by kernel_rfl)
          clear hp hl
          refine opgoal (_) (some 98) rfl rfl fun K hK => ?_
          refine Runs.mk ?_
          simp only [putAll]
          go_simp
          refine hK _ _ ?_ hS ((fun w => Below.refl _ w) W) _ rfl rfl
          first | rfl | go_simp | simp
        · -- 7: Op.indexAddr 61 (Operand.tmp 97) (Operand.tmp 98)
          intro l hl vs W hS hR hp
          obtain rfl : l = [(5, 97), (6, 98)] := hl.symm.trans (by kernel_rfl)
          have p5 : vs 5 = _ := hp 5 (by decide) (by decide)
          have p6 : vs 6 = _ := hp 6 (by decide) (by decide)
          clear hp hl
          refine opgoal (_) (some 99) rfl rfl fun K hK => ?_
          refine Runs.mk ?_
          simp only [putAll]
          go_simp
          refine hK _ _ ?_ hS ((fun w => Below.refl _ w) W) _ rfl rfl
          first | rfl | go_simp | simp
        · -- 8: Op.load 66 (Operand.tmp 99)
          intro l hl vs W hS hR hp
          obtain rfl : l = [(5, 97), (6, 98), (7, 99)] := hl.symm.trans (by kernel_rfl)
          have p7 : vs 7 = _ := hp 7 (by decide) (by decide)
          clear hp hl
          refine opgoal (_) (some 100) rfl rfl fun K hK => ?_
          obtain ⟨e0, e1, e2, e3, e4, e5, e6⟩ := HCY.out W hS.1
          refine Runs.mk ?_
          simp only [putAll]
          go_simp
          refine hK _ _ ?_ hS ((fun w => Below.refl _ w) W) _ rfl rfl
          first | rfl | go_simp | simp
        · -- 9: Op.call { callee := Callee.value (Operand.tmp 92), args := #[Operand.tmp 96, Operand.tmp 100], argTypes := #[66, 66] }
          intro l hl vs W hS hR hp
          obtain rfl : l = [(0, 92), (1, 93), (2, 94), (3, 95), (4, 96), (5, 97), (6, 98), (7, 99), (8, 100)] := hl.symm.trans (by kernel_rfl)
          have p0 : vs 0 = _ := hp 0 (by decide) (by decide)
          have p4 : vs 4 = _ := hp 4 (by decide) (by decide)
          have p8 : vs 8 = _ := hp 8 (by decide) (by decide)
          clear hp hl
          refine opgoal (_) (some 101) rfl rfl fun K hK => ?_
          refine Runs.mk ?_
          simp only [putAll]
          go_simp
          refine (HCMP.out W).mono ?_
          rintro e w' ⟨rfl, hb⟩
          go_simp
          exact hK _ _ rfl (hS.below hb) hb _ rfl rfl
        · -- 10: Op.binOp BinOp.lss 3 (Operand.tmp 101) (Operand.const (Value.int IntKind.i64 0)) 3
          intro l hl vs W hS hR hp
          obtain rfl : l = [(0, 92), (1, 93), (2, 94), (3, 95), (4, 96), (5, 97), (6, 98), (7, 99), (8, 100), (9, 101)] := hl.symm.trans (by kernel_rfl)
          have p9 : vs 9 = _ := hp 9 (by decide) (by decide)
          clear hp hl
          refine opgoal (_) (some 102) rfl rfl fun K hK => ?_
          have hq9 := HQ.out
          refine Runs.mk ?_
          simp only [putAll]
          go_simp
          refine hK _ _ ?_ hS ((fun w => Below.refl _ w) W) _ rfl rfl
          first | rfl | go_simp | simp
        · -- 11: Op.unOp UnOp.not 4 (Operand.tmp 102)
          intro l hl vs W hS hR hp
          obtain rfl : l = [(0, 92), (1, 93), (2, 94), (3, 95), (4, 96), (5, 97), (6, 98), (7, 99), (8, 100), (9, 101), (10, 102)] := hl.symm.trans (by kernel_rfl)
          have p10 : vs 10 = _ := hp 10 (by decide) (by decide)
          clear hp hl
          refine opgoal (_) (some 103) rfl rfl fun K hK => ?_
          refine Runs.mk ?_
          simp only [putAll]
          go_simp
          refine hK _ _ ?_ hS ((fun w => Below.refl _ w) W) _ rfl rfl
          first | rfl | go_simp | simp
      · intro l hl vs W hS hR hp
        obtain rfl : l = [(0, 92), (1, 93), (2, 94), (3, 95), (4, 96), (5, 97), (6, 98), (7, 99), (8, 100), (9, 101), (10, 102), (11, 103)] := hl.symm.trans (by kernel_rfl)
        have p0 : vs 0 = _ := hp 0 (by decide) (by decide)
        have p1 : vs 1 = _ := hp 1 (by decide) (by decide)
        have p2 : vs 2 = _ := hp 2 (by decide) (by decide)
        have p3 : vs 3 = _ := hp 3 (by decide) (by decide)
        have p4 : vs 4 = _ := hp 4 (by decide) (by decide)
        have p5 : vs 5 = _ := hp 5 (by decide) (by decide)
        have p6 : vs 6 = _ := hp 6 (by decide) (by decide)
        have p7 : vs 7 = _ := hp 7 (by decide) (by decide)
        have p8 : vs 8 = _ := hp 8 (by decide) (by decide)
        have p9 : vs 9 = _ := hp 9 (by decide) (by decide)
        have p10 : vs 10 = _ := hp 10 (by decide) (by decide)
        have p11 : vs 11 = _ := hp 11 (by decide) (by decide)
        clear hp hl
        simp only [putAll_mk, setAll, List.setIfInBounds_toArray, List.set_cons_succ, List.set_cons_zero, p0, p1, p2, p3, p4, p5, p6, p7, p8, p9, p10, p11]
        have HS8 := Lib.hid hS
        clear hS hR hS0
        cases q with
        | false =>
          have HN := Lib.hid (HTRUE.out rfl)
          go_wp2_with fail
          go_roundg (j - (hh + 1))
          case measure => omega
          case rel => exact ⟨hh + 1, j, rfl, by go_num, rfl, by omega, by omega, by omega, Lib.hid ⟨HS8.out, HN.out⟩⟩
        | true =>
          have HN := Lib.hid (HFALSE.out rfl)
          go_wp2_with fail
          go_roundg (hh - i)
          case measure => omega
          case rel => exact ⟨i, hh, rfl, rfl, rfl, by omega, by omega, by omega, Lib.hid ⟨HS8.out, HN.out⟩⟩
    · have d1 : decide ((i : Int) < (j : Int)) = false := by simp; omega
      have d1n : decide (i < j) = false := by simp; omega
      have hRi : R = i := by
        obtain ⟨f, hf, hr⟩ := HI.out.2
        obtain ⟨f', rfl⟩ : ∃ f', f = f' + 1 := ⟨f - 1, by omega⟩
        rw [hr, bsG, if_neg hlt]
      subst hRi
      have HRR := HR.out.2
      have HI0 : Hid (Srt base g c n w wr T0) := Lib.hid HI.out.1
      clear HI HR hlt
      go_wp2_with fail
      clear d1 d1n
      go_loopg [17] (m0 - R) (fun gk kv wr => ∃ k : Nat, gk = m0 - R - k ∧ kv = .int .i64 ((m0 - k : Nat) : Int) ∧ k ≤ m0 - R ∧ Hid (wr.ownsRow base TM 7 (.slice (some ⟨g, 0, none⟩) n c) n ((downB T0 m0 k).flatMap encT) ∧ Keep [g] w wr))
      case atStart => exact ⟨0, rfl, rfl, by omega, HI0⟩
      case round =>
        obtain ⟨k, hgk2, rfl, hk, HI⟩ := hrel
        obtain ⟨ii, hii0⟩ : ∃ ii, m0 - k = ii := ⟨_, rfl⟩
        rw [hii0]
        by_cases hlt : k < m0 - R
        · obtain ⟨T1, hT1⟩ : ∃ T1, downB T0 m0 k = T1 := ⟨_, rfl⟩
          have hl0 : T1.length = n := by rw [← hT1, downB_len]; exact HL.out
          obtain ⟨jj, hjj0⟩ : ∃ jj, ii - 1 = jj := ⟨_, rfl⟩
          have hii : ii < n := by omega
          have hjj : jj < n := by omega
          obtain ⟨x, hx⟩ : ∃ x, T1[ii]? = some x := ⟨_, List.getElem?_eq_getElem (by omega)⟩
          obtain ⟨y, hy⟩ : ∃ y, T1[jj]? = some y := ⟨_, List.getElem?_eq_getElem (by omega)⟩
          have HN : Hid (downB T0 m0 (k + 1) = (T1.set ii y).set jj x) := Lib.hid (by rw [downB, hT1, hii0, hjj0, swp_at hx hy])
          have hi0 := HI.out.1
          rw [hT1] at hi0
          have HL0 := Lib.hid hl0
          have HL1 : Hid ((T1.set ii y).length = n) := Lib.hid (by rw [List.length_set]; exact hl0)
          have HJJ : Hid (IntKind.i64.wrap ((ii : Int) - 1) = (jj : Int)) := Lib.hid (by rw [IntKind.wrap_i64]; omega)
          have HJE : Hid (((m0 - (k + 1) : Nat) : Int) = (ii : Int) - 1) := Lib.hid (by omega)
          have HCI := Lib.hid (fun (W : World) (h : W.ownsRow base TM 7 (.slice (some ⟨g, 0, none⟩) n c) n (T1.flatMap encT)) => own_getT h hx)
          have HCJ := Lib.hid (fun (W : World) (h : W.ownsRow base TM 7 (.slice (some ⟨g, 0, none⟩) n c) n (T1.flatMap encT)) => own_getT h hy)
          have hS0 : wr.drew.ownsRow base TM 7 (.slice (some ⟨g, 0, none⟩) n c) n (T1.flatMap encT) := own_kept hi0 (below_drewN 1 wr)
          have HS0 := Lib.hid hS0
          have d2 : decide ((R : Int) < (ii : Int)) = true := by simp; omega
          have d2n : decide (R < ii) = true := by simp; omega
          obtain ⟨x1, x2, x3, x4, x5, x6, x7⟩ := x
          obtain ⟨y1, y2, y3, y4, y5, y6, y7⟩ := y
          dsimp only at HCI HCJ HN HL1
          have hiI : (ii : Int) < (n : Int) := by omega
          have hjI : (jj : Int) < (n : Int) := by omega
          clear hS0 hi0 hx hy hl0 hT1 hii0 hjj0
          go_wp2_with fail
          have hS0 := HS0.out
          clear d2 d2n
          refine wp_region_done (fun dnf => fun W => W.ownsRow base TM 7 (.slice (some ⟨g, 0, none⟩) n c) n ((if (dnf 17) then ((T1.set ii (y1, y2, y3, y4, y5, y6, y7)).set jj (x1, x2, x3, x4, x5, x6, x7)) else if (dnf 15) then T1.set ii (y1, y2, y3, y4, y5, y6, y7) else T1).flatMap encT)) (fun u v => Keep [g] u v) (fun k u v => (k = 15 → (fun u v => Keep [g] u v) u v) ∧ (k = 17 → (fun u v => Keep [g] u v) u v) ∧ (¬ k = 15 → ¬ k = 17 → (fun u v => Keep [g] u v) u v)) (fun a i => match i with
              | 0 => (fun v _ => v = .slice (some ⟨g, 0, none⟩) n c)
              | 1 => (fun v _ => v = .int .i64 (ii : Int))
              | 2 => (fun v _ => v = .slice (some ⟨g, 0, none⟩) n c)
              | 3 => (fun v _ => v = .int .i64 (ii : Int))
              | 4 => (fun v _ => v = .int .i64 (jj : Int))
              | 5 => (fun v _ => v = .slice (some ⟨g, 0, none⟩) n c)
              | 6 => (fun v _ => v = .int .i64 (ii : Int))
              | 7 => (fun v _ => v = .int .i64 (jj : Int))
              | 8 => (fun v _ => v = .pointer (some ⟨g, jj * 7, none⟩))
              | 9 => (fun v _ => v = .agg #[.int .i64 y1, .int .i64 y2, .int .i64 y3, .int .i64 y4, .int .i64 y5, .int .i64 y6, .int .i64 y7])
              | 10 => (fun v _ => v = .slice (some ⟨g, 0, none⟩) n c)
              | 11 => (fun v _ => v = .int .i64 (ii : Int))
              | 12 => (fun v _ => v = .pointer (some ⟨g, ii * 7, none⟩))
              | 13 => (fun v _ => v = .agg #[.int .i64 x1, .int .i64 x2, .int .i64 x3, .int .i64 x4, .int .i64 x5, .int .i64 x6, .int .i64 x7])
              | 14 => (fun v _ => v = .pointer (some ⟨g, ii * 7, none⟩))
              | 15 => (fun v W => True)
              | 16 => (fun v _ => v = .pointer (some ⟨g, jj * 7, none⟩))
              | 17 => (fun v W => True)
              | _ => (fun _ _ => True)) #[0, 0, 0, 0, 8, 0, 0, 64, 224, 480, 0, 0, 3072, 7168, 16355, 32739, 65535, 131071] #[0, 0, 0, 0, 8, 0, 0, 64, 160, 256, 0, 0, 3072, 4096, 3, 16896, 20, 73728] 98303 (by kernel_rfl) 18 rfl (fun m hm => by subst hm; kernel_rfl) (by kernel_rfl) (fun w => Keep.refl _ w) (fun u v w h1 h2 => h1.trans h2) ?_ ?_ (hS0) ?_ ?_
          · intro k u v hk hr
            by_cases hs15 : k = 15
            · have h := hr.1 hs15; exact h
            by_cases hs17 : k = 17
            · have h := hr.2.1 hs17; exact h
            have h := hr.2.2 hs15 hs17; exact h
          · intro i hi
            rcases (by omega : i = 0 ∨ i = 1 ∨ i = 2 ∨ i = 3 ∨ i = 4 ∨ i = 5 ∨ i = 6 ∨ i = 7 ∨ i = 8 ∨ i = 9 ∨ i = 10 ∨ i = 11 ∨ i = 12 ∨ i = 13 ∨ i = 14 ∨ i = 15 ∨ i = 16 ∨ i = 17) with rfl | rfl | rfl | rfl | rfl | rfl | rfl | rfl | rfl | rfl | rfl | rfl | rfl | rfl | rfl | rfl | rfl | rfl
            · intro k hk y hy hyt v w w' h hr
              exact h
            · intro k hk y hy hyt v w w' h hr
              exact h
            · intro k hk y hy hyt v w w' h hr
              exact h
            · intro k hk y hy hyt v w w' h hr
              exact h
            · intro k hk y hy hyt v w w' h hr
              exact h
            · intro k hk y hy hyt v w w' h hr
              exact h
            · intro k hk y hy hyt v w w' h hr
              exact h
            · intro k hk y hy hyt v w w' h hr
              exact h
            · intro k hk y hy hyt v w w' h hr
              exact h
            · intro k hk y hy hyt v w w' h hr
              exact h
            · intro k hk y hy hyt v w w' h hr
              exact h
            · intro k hk y hy hyt v w w' h hr
              exact h
            · intro k hk y hy hyt v w w' h hr
              exact h
            · intro k hk y hy hyt v w w' h hr
              exact h
            · intro k hk y hy hyt v w w' h hr
              exact h
            · intro k hk y hy hyt v w w' h hr
              by_cases hs15 : k = 15
              · have hr0 := hr.1 hs15
                subst hs15
                exact absurd (hy.trans hyt) (ne_true_of_eq_false (by kernel_rfl))
              by_cases hs17 : k = 17
              · have hr0 := hr.2.1 hs17
                subst hs17
                exact absurd (hy.trans hyt) (ne_true_of_eq_false (by kernel_rfl))
              have hr := hr.2.2 hs15 hs17
              exact trivial
            · intro k hk y hy hyt v w w' h hr
              exact h
            · intro k hk y hy hyt v w w' h hr
              by_cases hs15 : k = 15
              · have hr0 := hr.1 hs15
                subst hs15
                exact absurd (hy.trans hyt) (ne_true_of_eq_false (by kernel_rfl))
              by_cases hs17 : k = 17
              · have hr0 := hr.2.1 hs17
                subst hs17
                exact absurd (hy.trans hyt) (ne_true_of_eq_false (by kernel_rfl))
              have hr := hr.2.2 hs15 hs17
              exact trivial
          · intro i hi
            rcases (by omega : i = 0 ∨ i = 1 ∨ i = 2 ∨ i = 3 ∨ i = 4 ∨ i = 5 ∨ i = 6 ∨ i = 7 ∨ i = 8 ∨ i = 9 ∨ i = 10 ∨ i = 11 ∨ i = 12 ∨ i = 13 ∨ i = 14 ∨ i = 15 ∨ i = 16 ∨ i = 17) with rfl | rfl | rfl | rfl | rfl | rfl | rfl | rfl | rfl | rfl | rfl | rfl | rfl | rfl | rfl | rfl | rfl | rfl
            · -- 0: Op.move (Operand.tmp 0)
              intro l hl vs W dn e1 e2 e3 hS hR hp
              have f15 : dn 15 = false := e3 15 (by kernel_rfl)
              have f17 : dn 17 = false := e3 17 (by kernel_rfl)
              replace hS : (fun W => W.ownsRow base TM 7 (.slice (some ⟨g, 0, none⟩) n c) n ((if (dn 17) then ((T1.set ii (y1, y2, y3, y4, y5, y6, y7)).set jj (x1, x2, x3, x4, x5, x6, x7)) else if (dn 15) then T1.set ii (y1, y2, y3, y4, y5, y6, y7) else T1).flatMap encT)) W := hS
              rw [f15, f17] at hS
              have g15 : (dn 15 || ((0 : Nat) == 15)) = false := by rw [f15]; rfl
              have g17 : (dn 17 || ((0 : Nat) == 17)) = false := by rw [f17]; rfl
              refine OpGoal.imp (S1 := fun W => W.ownsRow base TM 7 (.slice (some ⟨g, 0, none⟩) n c) n ((if false then ((T1.set ii (y1, y2, y3, y4, y5, y6, y7)).set jj (x1, x2, x3, x4, x5, x6, x7)) else if false then T1.set ii (y1, y2, y3, y4, y5, y6, y7) else T1).flatMap encT)) (fun W' h => ?_) ?_
              · show (fun W => W.ownsRow base TM 7 (.slice (some ⟨g, 0, none⟩) n c) n ((if (dn 17 || ((0 : Nat) == 17)) then ((T1.set ii (y1, y2, y3, y4, y5, y6, y7)).set jj (x1, x2, x3, x4, x5, x6, x7)) else if (dn 15 || ((0 : Nat) == 15)) then T1.set ii (y1, y2, y3, y4, y5, y6, y7) else T1).flatMap encT)) W'
                rw [g15, g17]
                exact h
              clear g15 g17 e1 e2 e3
              obtain rfl : l = [] := hl.symm.trans (by kernel_rfl)
              clear hp hl
              refine opgoal (_) (some 113) rfl rfl fun K hK => ?_
              refine Runs.mk ?_
              simp only [putAll]
              go_simp
              refine hK _ _ ?_ hS ⟨fun h => absurd h (by decide), fun h => absurd h (by decide), fun h15 h17 => ((fun w => Keep.refl _ w) W)⟩ _ rfl rfl
              first | rfl | go_simp | simp
            · -- 1: Op.move (Operand.tmp 17)
              intro l hl vs W dn e1 e2 e3 hS hR hp
              have f15 : dn 15 = false := e3 15 (by kernel_rfl)
              have f17 : dn 17 = false := e3 17 (by kernel_rfl)
              replace hS : (fun W => W.ownsRow base TM 7 (.slice (some ⟨g, 0, none⟩) n c) n ((if (dn 17) then ((T1.set ii (y1, y2, y3, y4, y5, y6, y7)).set jj (x1, x2, x3, x4, x5, x6, x7)) else if (dn 15) then T1.set ii (y1, y2, y3, y4, y5, y6, y7) else T1).flatMap encT)) W := hS
              rw [f15, f17] at hS
              have g15 : (dn 15 || ((1 : Nat) == 15)) = false := by rw [f15]; rfl
              have g17 : (dn 17 || ((1 : Nat) == 17)) = false := by rw [f17]; rfl
              refine OpGoal.imp (S1 := fun W => W.ownsRow base TM 7 (.slice (some ⟨g, 0, none⟩) n c) n ((if false then ((T1.set ii (y1, y2, y3, y4, y5, y6, y7)).set jj (x1, x2, x3, x4, x5, x6, x7)) else if false then T1.set ii (y1, y2, y3, y4, y5, y6, y7) else T1).flatMap encT)) (fun W' h => ?_) ?_
              · show (fun W => W.ownsRow base TM 7 (.slice (some ⟨g, 0, none⟩) n c) n ((if (dn 17 || ((1 : Nat) == 17)) then ((T1.set ii (y1, y2, y3, y4, y5, y6, y7)).set jj (x1, x2, x3, x4, x5, x6, x7)) else if (dn 15 || ((1 : Nat) == 15)) then T1.set ii (y1, y2, y3, y4, y5, y6, y7) else T1).flatMap encT)) W'
                rw [g15, g17]
                exact h
              clear g15 g17 e1 e2 e3
              obtain rfl : l = [] := hl.symm.trans (by kernel_rfl)
              clear hp hl
              refine opgoal (_) (some 114) rfl rfl fun K hK => ?_
              refine Runs.mk ?_
              simp only [putAll]
              go_simp
              refine hK _ _ ?_ hS ⟨fun h => absurd h (by decide), fun h => absurd h (by decide), fun h15 h17 => ((fun w => Keep.refl _ w) W)⟩ _ rfl rfl
              first | rfl | go_simp | simp
            · -- 2: Op.move (Operand.tmp 0)
              intro l hl vs W dn e1 e2 e3 hS hR hp
              have f15 : dn 15 = dn 15 := rfl
              have f17 : dn 17 = false := e3 17 (by kernel_rfl)
              replace hS : (fun W => W.ownsRow base TM 7 (.slice (some ⟨g, 0, none⟩) n c) n ((if (dn 17) then ((T1.set ii (y1, y2, y3, y4, y5, y6, y7)).set jj (x1, x2, x3, x4, x5, x6, x7)) else if (dn 15) then T1.set ii (y1, y2, y3, y4, y5, y6, y7) else T1).flatMap encT)) W := hS
              rw [f17] at hS
              have g15 : (dn 15 || ((2 : Nat) == 15)) = dn 15 := Bool.or_false _
              have g17 : (dn 17 || ((2 : Nat) == 17)) = false := by rw [f17]; rfl
              refine OpGoal.imp (S1 := fun W => W.ownsRow base TM 7 (.slice (some ⟨g, 0, none⟩) n c) n ((if false then ((T1.set ii (y1, y2, y3, y4, y5, y6, y7)).set jj (x1, x2, x3, x4, x5, x6, x7)) else if (dn 15) then T1.set ii (y1, y2, y3, y4, y5, y6, y7) else T1).flatMap encT)) (fun W' h => ?_) ?_
              · show (fun W => W.ownsRow base TM 7 (.slice (some ⟨g, 0, none⟩) n c) n ((if (dn 17 || ((2 : Nat) == 17)) then ((T1.set ii (y1, y2, y3, y4, y5, y6, y7)).set jj (x1, x2, x3, x4, x5, x6, x7)) else if (dn 15 || ((2 : Nat) == 15)) then T1.set ii (y1, y2, y3, y4, y5, y6, y7) else T1).flatMap encT)) W'
                rw [g15, g17]
                exact h
              clear g15 g17 e1 e2 e3
              obtain rfl : l = [] := hl.symm.trans (by kernel_rfl)
              clear hp hl
              refine opgoal (_) (some 115) rfl rfl fun K hK => ?_
              refine Runs.mk ?_
              simp only [putAll]
              go_simp
              refine hK _ _ ?_ hS ⟨fun h => absurd h (by decide), fun h => absurd h (by decide), fun h15 h17 => ((fun w => Keep.refl _ w) W)⟩ _ rfl rfl
              first | rfl | go_simp | simp
            · -- 3: Op.move (Operand.tmp 17)
              intro l hl vs W dn e1 e2 e3 hS hR hp
              have f15 : dn 15 = dn 15 := rfl
              have f17 : dn 17 = false := e3 17 (by kernel_rfl)
              replace hS : (fun W => W.ownsRow base TM 7 (.slice (some ⟨g, 0, none⟩) n c) n ((if (dn 17) then ((T1.set ii (y1, y2, y3, y4, y5, y6, y7)).set jj (x1, x2, x3, x4, x5, x6, x7)) else if (dn 15) then T1.set ii (y1, y2, y3, y4, y5, y6, y7) else T1).flatMap encT)) W := hS
              rw [f17] at hS
              have g15 : (dn 15 || ((3 : Nat) == 15)) = dn 15 := Bool.or_false _
              have g17 : (dn 17 || ((3 : Nat) == 17)) = false := by rw [f17]; rfl
              refine OpGoal.imp (S1 := fun W => W.ownsRow base TM 7 (.slice (some ⟨g, 0, none⟩) n c) n ((if false then ((T1.set ii (y1, y2, y3, y4, y5, y6, y7)).set jj (x1, x2, x3, x4, x5, x6, x7)) else if (dn 15) then T1.set ii (y1, y2, y3, y4, y5, y6, y7) else T1).flatMap encT)) (fun W' h => ?_) ?_
              · show (fun W => W.ownsRow base TM 7 (.slice (some ⟨g, 0, none⟩) n c) n ((if (dn 17 || ((3 : Nat) == 17)) then ((T1.set ii (y1, y2, y3, y4, y5, y6, y7)).set jj (x1, x2, x3, x4, x5, x6, x7)) else if (dn 15 || ((3 : Nat) == 15)) then T1.set ii (y1, y2, y3, y4, y5, y6, y7) else T1).flatMap encT)) W'
                rw [g15, g17]
                exact h
              clear g15 g17 e1 e2 e3
              obtain rfl : l = [] := hl.symm.trans (by kernel_rfl)
              clear hp hl
              refine opgoal (_) (some 116) rfl rfl fun K hK => ?_
              refine Runs.mk ?_
              simp only [putAll]
              go_simp
              refine hK _ _ ?_ hS ⟨fun h => absurd h (by decide), fun h => absurd h (by decide), fun h15 h17 => ((fun w => Keep.refl _ w) W)⟩ _ rfl rfl
              first | rfl | go_simp | simp
            · -- 4: Op.binOp BinOp.sub 3 (Operand.tmp 116) (Operand.const (Value.int IntKind.i64 1)) 3
              intro l hl vs W dn e1 e2 e3 hS hR hp
              have f15 : dn 15 = dn 15 := rfl
              have f17 : dn 17 = false := e3 17 (by kernel_rfl)
              replace hS : (fun W => W.ownsRow base TM 7 (.slice (some ⟨g, 0, none⟩) n c) n ((if (dn 17) then ((T1.set ii (y1, y2, y3, y4, y5, y6, y7)).set jj (x1, x2, x3, x4, x5, x6, x7)) else if (dn 15) then T1.set ii (y1, y2, y3, y4, y5, y6, y7) else T1).flatMap encT)) W := hS
              rw [f17] at hS
              have g15 : (dn 15 || ((4 : Nat) == 15)) = dn 15 := Bool.or_false _
              have g17 : (dn 17 || ((4 : Nat) == 17)) = false := by rw [f17]; rfl
              refine OpGoal.imp (S1 := fun W => W.ownsRow base TM 7 (.slice (some ⟨g, 0, none⟩) n c) n ((if false then ((T1.set ii (y1, y2, y3, y4, y5, y6, y7)).set jj (x1, x2, x3, x4, x5, x6, x7)) else if (dn 15) then T1.set ii (y1, y2, y3, y4, y5, y6, y7) else T1).flatMap encT)) (fun W' h => ?_) ?_
              · show (fun W => W.ownsRow base TM 7 (.slice (some ⟨g, 0, none⟩) n c) n ((if (dn 17 || ((4 : Nat) == 17)) then ((T1.set ii (y1, y2, y3, y4, y5, y6, y7)).set jj (x1, x2, x3, x4, x5, x6, x7)) else if (dn 15 || ((4 : Nat) == 15)) then T1.set ii (y1, y2, y3, y4, y5, y6, y7) else T1).flatMap encT)) W'
                rw [g15, g17]
                exact h
              clear g15 g17 e1 e2 e3
              obtain rfl : l = [(3, 116)] := hl.symm.trans (by kernel_rfl)
              have p3 : vs 3 = _ := hp 3 (by decide) (by decide)
              clear hp hl
              refine opgoal (_) (some 117) rfl rfl fun K hK => ?_
              have hw := HJJ.out
              refine Runs.mk ?_
              simp only [putAll]
              go_simp
              refine hK _ _ ?_ hS ⟨fun h => absurd h (by decide), fun h => absurd h (by decide), fun h15 h17 => ((fun w => Keep.refl _ w) W)⟩ _ rfl rfl
              first | rfl | go_simp | simp
            · -- 5: Op.move (Operand.tmp 0)
              intro l hl vs W dn e1 e2 e3 hS hR hp
              have f15 : dn 15 = false := e3 15 (by kernel_rfl)
              have f17 : dn 17 = false := e3 17 (by kernel_rfl)
              replace hS : (fun W => W.ownsRow base TM 7 (.slice (some ⟨g, 0, none⟩) n c) n ((if (dn 17) then ((T1.set ii (y1, y2, y3, y4, y5, y6, y7)).set jj (x1, x2, x3, x4, x5, x6, x7)) else if (dn 15) then T1.set ii (y1, y2, y3, y4, y5, y6, y7) else T1).flatMap encT)) W := hS
              rw [f15, f17] at hS
              have g15 : (dn 15 || ((5 : Nat) == 15)) = false := by rw [f15]; rfl
              have g17 : (dn 17 || ((5 : Nat) == 17)) = false := by rw [f17]; rfl
              refine OpGoal.imp (S1 := fun W => W.ownsRow base TM 7 (.slice (some ⟨g, 0, none⟩) n c) n ((if false then ((T1.set ii (y1, y2, y3, y4, y5, y6, y7)).set jj (x1, x2, x3, x4, x5, x6, x7)) else if false then T1.set ii (y1, y2, y3, y4, y5, y6, y7) else T1).flatMap encT)) (fun W' h => ?_) ?_
              · show (fun W => W.ownsRow base TM 7 (.slice (some ⟨g, 0, none⟩) n c) n ((if (dn 17 || ((5 : Nat) == 17)) then ((T1.set ii (y1, y2, y3, y4, y5, y6, y7)).set jj (x1, x2, x3, x4, x5, x6, x7)) else if (dn 15 || ((5 : Nat) == 15)) then T1.set ii (y1, y2, y3, y4, y5, y6, y7) else T1).flatMap encT)) W'
                rw [g15, g17]
                exact h
              clear g15 g17 e1 e2 e3
              obtain rfl : l = [] := hl.symm.trans (by kernel_rfl)
              clear hp hl
              refine opgoal (_) (some 118) rfl rfl fun K hK => ?_
              refine Runs.mk ?_
              simp only [putAll]
              go_simp
              refine hK _ _ ?_ hS ⟨fun h => absurd h (by decide), fun h => absurd h (by decide), fun h15 h17 => ((fun w => Keep.refl _ w) W)⟩ _ rfl rfl
              first | rfl | go_simp | simp
            · -- 6: Op.move (Operand.tmp 17)
              intro l hl vs W dn e1 e2 e3 hS hR hp
              have f15 : dn 15 = false := e3 15 (by kernel_rfl)
              have f17 : dn 17 = false := e3 17 (by kernel_rfl)
              replace hS : (fun W => W.ownsRow base TM 7 (.slice (some ⟨g, 0, none⟩) n c) n ((if (dn 17) then ((T1.set ii (y1, y2, y3, y4, y5, y6, y7)).set jj (x1, x2, x3, x4, x5, x6, x7)) else if (dn 15) then T1.set ii (y1, y2, y3, y4, y5, y6, y7) else T1).flatMap encT)) W := hS
              rw [f15, f17] at hS
              have g15 : (dn 15 || ((6 : Nat) == 15)) = false := by rw [f15]; rfl
              have g17 : (dn 17 || ((6 : Nat) == 17)) = false := by rw [f17]; rfl
              refine OpGoal.imp (S1 := fun W => W.ownsRow base TM 7 (.slice (some ⟨g, 0, none⟩) n c) n ((if false then ((T1.set ii (y1, y2, y3, y4, y5, y6, y7)).set jj (x1, x2, x3, x4, x5, x6, x7)) else if false then T1.set ii (y1, y2, y3, y4, y5, y6, y7) else T1).flatMap encT)) (fun W' h => ?_) ?_
              · show (fun W => W.ownsRow base TM 7 (.slice (some ⟨g, 0, none⟩) n c) n ((if (dn 17 || ((6 : Nat) == 17)) then ((T1.set ii (y1, y2, y3, y4, y5, y6, y7)).set jj (x1, x2, x3, x4, x5, x6, x7)) else if (dn 15 || ((6 : Nat) == 15)) then T1.set ii (y1, y2, y3, y4, y5, y6, y7) else T1).flatMap encT)) W'
                rw [g15, g17]
                exact h
              clear g15 g17 e1 e2 e3
              obtain rfl : l = [] := hl.symm.trans (by kernel_rfl)
              clear hp hl
              refine opgoal (_) (some 119) rfl rfl fun K hK => ?_
              refine Runs.mk ?_
              simp only [putAll]
              go_simp
              refine hK _ _ ?_ hS ⟨fun h => absurd h (by decide), fun h => absurd h (by decide), fun h15 h17 => ((fun w => Keep.refl _ w) W)⟩ _ rfl rfl
              first | rfl | go_simp | simp
            · -- 7: Op.binOp BinOp.sub 3 (Operand.tmp 119) (Operand.const (Value.int IntKind.i64 1)) 3
              intro l hl vs W dn e1 e2 e3 hS hR hp
              have f15 : dn 15 = false := e3 15 (by kernel_rfl)
              have f17 : dn 17 = false := e3 17 (by kernel_rfl)
              replace hS : (fun W => W.ownsRow base TM 7 (.slice (some ⟨g, 0, none⟩) n c) n ((if (dn 17) then ((T1.set ii (y1, y2, y3, y4, y5, y6, y7)).set jj (x1, x2, x3, x4, x5, x6, x7)) else if (dn 15) then T1.set ii (y1, y2, y3, y4, y5, y6, y7) else T1).flatMap encT)) W := hS
              rw [f15, f17] at hS
              have g15 : (dn 15 || ((7 : Nat) == 15)) = false := by rw [f15]; rfl
              have g17 : (dn 17 || ((7 : Nat) == 17)) = false := by rw [f17]; rfl
              refine OpGoal.imp (S1 := fun W => W.ownsRow base TM 7 (.slice (some ⟨g, 0, none⟩) n c) n ((if false then ((T1.set ii (y1, y2, y3, y4, y5, y6, y7)).set jj (x1, x2, x3, x4, x5, x6, x7)) else if false then T1.set ii (y1, y2, y3, y4, y5, y6, y7) else T1).flatMap encT)) (fun W' h => ?_) ?_
              · show (fun W => W.ownsRow base TM 7 (.slice (some ⟨g, 0, none⟩) n c) n ((if (dn 17 || ((7 : Nat) == 17)) then ((T1.set ii (y1, y2, y3, y4, y5, y6, y7)).set jj (x1, x2, x3, x4, x5, x6, x7)) else if (dn 15 || ((7 : Nat) == 15)) then T1.set ii (y1, y2, y3, y4, y5, y6, y7) else T1).flatMap encT)) W'
                rw [g15, g17]
                exact h
              clear g15 g17 e1 e2 e3
              obtain rfl : l = [(6, 119)] := hl.symm.trans (by kernel_rfl)
              have p6 : vs 6 = _ := hp 6 (by decide) (by decide)
              clear hp hl
              refine opgoal (_) (some 120) rfl rfl fun K hK => ?_
              have hw := HJJ.out
              refine Runs.mk ?_
              simp only [putAll]
              go_simp
              refine hK _ _ ?_ hS ⟨fun h => absurd h (by decide), fun h => absurd h (by decide), fun h15 h17 => ((fun w => Keep.refl _ w) W)⟩ _ rfl rfl
              first | rfl | go_simp | simp
            · -- 8: Op.indexAddr 61 (Operand.tmp 118) (Operand.tmp 120)
              intro l hl vs W dn e1 e2 e3 hS hR hp
              have f15 : dn 15 = false := e3 15 (by kernel_rfl)
              have f17 : dn 17 = false := e3 17 (by kernel_rfl)
              replace hS : (fun W => W.ownsRow base TM 7 (.slice (some ⟨g, 0, none⟩) n c) n ((if (dn 17) then ((T1.set ii (y1, y2, y3, y4, y5, y6, y7)).set jj (x1, x2, x3, x4, x5, x6, x7)) else if (dn 15) then T1.set ii (y1, y2, y3, y4, y5, y6, y7) else T1).flatMap encT)) W := hS
              rw [f15, f17] at hS
              have g15 : (dn 15 || ((8 : Nat) == 15)) = false := by rw [f15]; rfl
              have g17 : (dn 17 || ((8 : Nat) == 17)) = false := by rw [f17]; rfl
              refine OpGoal.imp (S1 := fun W => W.ownsRow base TM 7 (.slice (some ⟨g, 0, none⟩) n c) n ((if false then ((T1.set ii (y1, y2, y3, y4, y5, y6, y7)).set jj (x1, x2, x3, x4, x5, x6, x7)) else if false then T1.set ii (y1, y2, y3, y4, y5, y6, y7) else T1).flatMap encT)) (fun W' h => ?_) ?_
              · show (fun W => W.ownsRow base TM 7 (.slice (some ⟨g, 0, none⟩) n c) n ((if (dn 17 || ((8 : Nat) == 17)) then ((T1.set ii (y1, y2, y3, y4, y5, y6, y7)).set jj (x1, x2, x3, x4, x5, x6, x7)) else if (dn 15 || ((8 : Nat) == 15)) then T1.set ii (y1, y2, y3, y4, y5, y6, y7) else T1).flatMap encT)) W'
                rw [g15, g17]
                exact h
              clear g15 g17 e1 e2 e3
              obtain rfl : l = [(5, 118), (6, 119), (7, 120)] := hl.symm.trans (by kernel_rfl)
              have p5 : vs 5 = _ := hp 5 (by decide) (by decide)
              have p7 : vs 7 = _ := hp 7 (by decide) (by decide)
              clear hp hl
              refine opgoal (_) (some 121) rfl rfl fun K hK => ?_
              refine Runs.mk ?_
              simp only [putAll]
              go_simp
              refine hK _ _ ?_ hS ⟨fun h => absurd h (by decide), fun h => absurd h (by decide), fun h15 h17 => ((fun w => Keep.refl _ w) W)⟩ _ rfl rfl
              first | rfl | go_simp | simp
            · -- 9: Op.load 66 (Operand.tmp 121)
              intro l hl vs W dn e1 e2 e3 hS hR hp
              have f15 : dn 15 = false := e3 15 (by kernel_rfl)
              have f17 : dn 17 = false := e3 17 (by kernel_rfl)
              replace hS : (fun W => W.ownsRow base TM 7 (.slice (some ⟨g, 0, none⟩) n c) n ((if (dn 17) then ((T1.set ii (y1, y2, y3, y4, y5, y6, y7)).set jj (x1, x2, x3, x4, x5, x6, x7)) else if (dn 15) then T1.set ii (y1, y2, y3, y4, y5, y6, y7) else T1).flatMap encT)) W := hS
              rw [f15, f17] at hS
              have g15 : (dn 15 || ((9 : Nat) == 15)) = false := by rw [f15]; rfl
              have g17 : (dn 17 || ((9 : Nat) == 17)) = false := by rw [f17]; rfl
              refine OpGoal.imp (S1 := fun W => W.ownsRow base TM 7 (.slice (some ⟨g, 0, none⟩) n c) n ((if false then ((T1.set ii (y1, y2, y3, y4, y5, y6, y7)).set jj (x1, x2, x3, x4, x5, x6, x7)) else if false then T1.set ii (y1, y2, y3, y4, y5, y6, y7) else T1).flatMap encT)) (fun W' h => ?_) ?_
              · show (fun W => W.ownsRow base TM 7 (.slice (some ⟨g, 0, none⟩) n c) n ((if (dn 17 || ((9 : Nat) == 17)) then ((T1.set ii (y1, y2, y3, y4, y5, y6, y7)).set jj (x1, x2, x3, x4, x5, x6, x7)) else if (dn 15 || ((9 : Nat) == 15)) then T1.set ii (y1, y2, y3, y4, y5, y6, y7) else T1).flatMap encT)) W'
                rw [g15, g17]
                exact h
              clear g15 g17 e1 e2 e3
              obtain rfl : l = [(5, 118), (6, 119), (7, 120), (8, 121)] := hl.symm.trans (by kernel_rfl)
              have p8 : vs 8 = _ := hp 8 (by decide) (by decide)
              clear hp hl
              refine opgoal (_) (some 122) rfl rfl fun K hK => ?_
              obtain ⟨e0, e1, e2, e3, e4, e5, e6⟩ := HCJ.out W hS
              refine Runs.mk ?_
              simp only [putAll]
              go_simp
              refine hK _ _ ?_ hS ⟨fun h => absurd h (by decide), fun h => absurd h (by decide), fun h15 h17 => ((fun w => Keep.refl _ w) W)⟩ _ rfl rfl
              first | rfl | go_simp | simp
            · -- 10: Op.move (Operand.tmp 0)
              intro l hl vs W dn e1 e2 e3 hS hR hp
              have f15 : dn 15 = false := e3 15 (by kernel_rfl)
              have f17 : dn 17 = false := e3 17 (by kernel_rfl)
              replace hS : (fun W => W.ownsRow base TM 7 (.slice (some ⟨g, 0, none⟩) n c) n ((if (dn 17) then ((T1.set ii (y1, y2, y3, y4, y5, y6, y7)).set jj (x1, x2, x3, x4, x5, x6, x7)) else if (dn 15) then T1.set ii (y1, y2, y3, y4, y5, y6, y7) else T1).flatMap encT)) W := hS
              rw [f15, f17] at hS
              have g15 : (dn 15 || ((10 : Nat) == 15)) = false := by rw [f15]; rfl
              have g17 : (dn 17 || ((10 : Nat) == 17)) = false := by rw [f17]; rfl
              refine OpGoal.imp (S1 := fun W => W.ownsRow base TM 7 (.slice (some ⟨g, 0, none⟩) n c) n ((if false then ((T1.set ii (y1, y2, y3, y4, y5, y6, y7)).set jj (x1, x2, x3, x4, x5, x6, x7)) else if false then T1.set ii (y1, y2, y3, y4, y5, y6, y7) else T1).flatMap encT)) (fun W' h => ?_) ?_
              · show (fun W => W.ownsRow base TM 7 (.slice (some ⟨g, 0, none⟩) n c) n ((if (dn 17 || ((10 : Nat) == 17)) then ((T1.set ii (y1, y2, y3, y4, y5, y6, y7)).set jj (x1, x2, x3, x4, x5, x6, x7)) else if (dn 15 || ((10 : Nat) == 15)) then T1.set ii (y1, y2, y3, y4, y5, y6, y7) else T1).flatMap encT)) W'
                rw [g15, g17]
                exact h
              clear g15 g17 e1 e2 e3
              obtain rfl : l = [] := hl.symm.trans (by kernel_rfl)
              clear hp hl
              refine opgoal (_) (some 123) rfl rfl fun K hK => ?_
              refine Runs.mk ?_
              simp only [putAll]
              go_simp
              refine hK _ _ ?_ hS ⟨fun h => absurd h (by decide), fun h => absurd h (by decide), fun h15 h17 => ((fun w => Keep.refl _ w) W)⟩ _ rfl rfl
              first | rfl | go_simp | simp
            · -- 11: Op.move (Operand.tmp 17)
              intro l hl vs W dn e1 e2 e3 hS hR hp
              have f15 : dn 15 = false := e3 15 (by kernel_rfl)
              have f17 : dn 17 = false := e3 17 (by kernel_rfl)
              replace hS : (fun W => W.ownsRow base TM 7 (.slice (some ⟨g, 0, none⟩) n c) n ((if (dn 17) then ((T1.set ii (y1, y2, y3, y4, y5, y6, y7)).set jj (x1, x2, x3, x4, x5, x6, x7)) else if (dn 15) then T1.set ii (y1, y2, y3, y4, y5, y6, y7) else T1).flatMap encT)) W := hS
              rw [f15, f17] at hS
              have g15 : (dn 15 || ((11 : Nat) == 15)) = false := by rw [f15]; rfl
              have g17 : (dn 17 || ((11 : Nat) == 17)) = false := by rw [f17]; rfl
              refine OpGoal.imp (S1 := fun W => W.ownsRow base TM 7 (.slice (some ⟨g, 0, none⟩) n c) n ((if false then ((T1.set ii (y1, y2, y3, y4, y5, y6, y7)).set jj (x1, x2, x3, x4, x5, x6, x7)) else if false then T1.set ii (y1, y2, y3, y4, y5, y6, y7) else T1).flatMap encT)) (fun W' h => ?_) ?_
              · show (fun W => W.ownsRow base TM 7 (.slice (some ⟨g, 0, none⟩) n c) n ((if (dn 17 || ((11 : Nat) == 17)) then ((T1.set ii (y1, y2, y3, y4, y5, y6, y7)).set jj (x1, x2, x3, x4, x5, x6, x7)) else if (dn 15 || ((11 : Nat) == 15)) then T1.set ii (y1, y2, y3, y4, y5, y6, y7) else T1).flatMap encT)) W'
                rw [g15, g17]
                exact h
              clear g15 g17 e1 e2 e3
              obtain rfl : l = [] := hl.symm.trans (by kernel_rfl)
              clear hp hl
              refine opgoal (_) (some 124) rfl rfl fun K hK => ?_
              refine Runs.mk ?_
              simp only [putAll]
              go_simp
              refine hK _ _ ?_ hS ⟨fun h => absurd h (by decide), fun h => absurd h (by decide), fun h15 h17 => ((fun w => Keep.refl _ w) W)⟩ _ rfl rfl
              first | rfl | go_simp | simp
            · -- 12: Op.indexAddr 61 (Operand.tmp 123) (Operand.tmp 124)
              intro l hl vs W dn e1 e2 e3 hS hR hp
              have f15 : dn 15 = false := e3 15 (by kernel_rfl)
              have f17 : dn 17 = false := e3 17 (by kernel_rfl)
              replace hS : (fun W => W.ownsRow base TM 7 (.slice (some ⟨g, 0, none⟩) n c) n ((if (dn 17) then ((T1.set ii (y1, y2, y3, y4, y5, y6, y7)).set jj (x1, x2, x3, x4, x5, x6, x7)) else if (dn 15) then T1.set ii (y1, y2, y3, y4, y5, y6, y7) else T1).flatMap encT)) W := hS
              rw [f15, f17] at hS
              have g15 : (dn 15 || ((12 : Nat) == 15)) = false := by rw [f15]; rfl
              have g17 : (dn 17 || ((12 : Nat) == 17)) = false := by rw [f17]; rfl
              refine OpGoal.imp (S1 := fun W => W.ownsRow base TM 7 (.slice (some ⟨g, 0, none⟩) n c) n ((if false then ((T1.set ii (y1, y2, y3, y4, y5, y6, y7)).set jj (x1, x2, x3, x4, x5, x6, x7)) else if false then T1.set ii (y1, y2, y3, y4, y5, y6, y7) else T1).flatMap encT)) (fun W' h => ?_) ?_
              · show (fun W => W.ownsRow base TM 7 (.slice (some ⟨g, 0, none⟩) n c) n ((if (dn 17 || ((12 : Nat) == 17)) then ((T1.set ii (y1, y2, y3, y4, y5, y6, y7)).set jj (x1, x2, x3, x4, x5, x6, x7)) else if (dn 15 || ((12 : Nat) == 15)) then T1.set ii (y1, y2, y3, y4, y5, y6, y7) else T1).flatMap encT)) W'
                rw [g15, g17]
                exact h
              clear g15 g17 e1 e2 e3
              obtain rfl : l = [(10, 123), (11, 124)] := hl.symm.trans (by kernel_rfl)
              have p10 : vs 10 = _ := hp 10 (by decide) (by decide)
              have p11 : vs 11 = _ := hp 11 (by decide) (by decide)
              clear hp hl
              refine opgoal (_) (some 125) rfl rfl fun K hK => ?_
              refine Runs.mk ?_
              simp only [putAll]
              go_simp
              refine hK _ _ ?_ hS ⟨fun h => absurd h (by decide), fun h => absurd h (by decide), fun h15 h17 => ((fun w => Keep.refl _ w) W)⟩ _ rfl rfl
              first | rfl | go_simp | simp
            · -- 13: Op.load 66 (Operand.tmp 125)
              intro l hl vs W dn e1 e2 e3 hS hR hp
              have f15 : dn 15 = false := e3 15 (by kernel_rfl)
              have f17 : dn 17 = false := e3 17 (by kernel_rfl)
              replace hS : (fun W => W.ownsRow base TM 7 (.slice (some ⟨g, 0, none⟩) n c) n ((if (dn 17) then ((T1.set ii (y1, y2, y3, y4, y5, y6, y7)).set jj (x1, x2, x3, x4, x5, x6, x7)) else if (dn 15) then T1.set ii (y1, y2, y3, y4, y5, y6, y7) else T1).flatMap encT)) W := hS
              rw [f15, f17] at hS
              have g15 : (dn 15 || ((13 : Nat) == 15)) = false := by rw [f15]; rfl
              have g17 : (dn 17 || ((13 : Nat) == 17)) = false := by rw [f17]; rfl
              refine OpGoal.imp (S1 := fun W => W.ownsRow base TM 7 (.slice (some ⟨g, 0, none⟩) n c) n ((if false then ((T1.set ii (y1, y2, y3, y4, y5, y6, y7)).set jj (x1, x2, x3, x4, x5, x6, x7)) else if false then T1.set ii (y1, y2, y3, y4, y5, y6, y7) else T1).flatMap encT)) (fun W' h => ?_) ?_
              · show (fun W => W.ownsRow base TM 7 (.slice (some ⟨g, 0, none⟩) n c) n ((if (dn 17 || ((13 : Nat) == 17)) then ((T1.set ii (y1, y2, y3, y4, y5, y6, y7)).set jj (x1, x2, x3, x4, x5, x6, x7)) else if (dn 15 || ((13 : Nat) == 15)) then T1.set ii (y1, y2, y3, y4, y5, y6, y7) else T1).flatMap encT)) W'
                rw [g15, g17]
                exact h
              clear g15 g17 e1 e2 e3
              obtain rfl : l = [(10, 123), (11, 124), (12, 125)] := hl.symm.trans (by kernel_rfl)
              have p12 : vs 12 = _ := hp 12 (by decide) (by decide)
              clear hp hl
              refine opgoal (_) (some 126) rfl rfl fun K hK => ?_
              obtain ⟨e0, e1, e2, e3, e4, e5, e6⟩ := HCI.out W hS
              refine Runs.mk ?_
              simp only [putAll]
              go_simp
              refine hK _ _ ?_ hS ⟨fun h => absurd h (by decide), fun h => absurd h (by decide), fun h15 h17 => ((fun w => Keep.refl _ w) W)⟩ _ rfl rfl
              first | rfl | go_simp | simp
            · -- 14: Op.indexAddr 61 (Operand.tmp 113) (Operand.tmp 114)
              intro l hl vs W dn e1 e2 e3 hS hR hp
              have f15 : dn 15 = false := e3 15 (by kernel_rfl)
              have f17 : dn 17 = false := e3 17 (by kernel_rfl)
              replace hS : (fun W => W.ownsRow base TM 7 (.slice (some ⟨g, 0, none⟩) n c) n ((if (dn 17) then ((T1.set ii (y1, y2, y3, y4, y5, y6, y7)).set jj (x1, x2, x3, x4, x5, x6, x7)) else if (dn 15) then T1.set ii (y1, y2, y3, y4, y5, y6, y7) else T1).flatMap encT)) W := hS
              rw [f15, f17] at hS
              have g15 : (dn 15 || ((14 : Nat) == 15)) = false := by rw [f15]; rfl
              have g17 : (dn 17 || ((14 : Nat) == 17)) = false := by rw [f17]; rfl
              refine OpGoal.imp (S1 := fun W => W.ownsRow base TM 7 (.slice (some ⟨g, 0, none⟩) n c) n ((if false then ((T1.set ii (y1, y2, y3, y4, y5, y6, y7)).set jj (x1, x2, x3, x4, x5, x6, x7)) else if false then T1.set ii (y1, y2, y3, y4, y5, y6, y7) else T1).flatMap encT)) (fun W' h => ?_) ?_
              · show (fun W => W.ownsRow base TM 7 (.slice (some ⟨g, 0, none⟩) n c) n ((if (dn 17 || ((14 : Nat) == 17)) then ((T1.set ii (y1, y2, y3, y4, y5, y6, y7)).set jj (x1, x2, x3, x4, x5, x6, x7)) else if (dn 15 || ((14 : Nat) == 15)) then T1.set ii (y1, y2, y3, y4, y5, y6, y7) else T1).flatMap encT)) W'
                rw [g15, g17]
                exact h
              clear g15 g17 e1 e2 e3
              obtain rfl : l = [(0, 113), (1, 114), (5, 118), (6, 119), (7, 120), (8, 121), (9, 122), (10, 123), (11, 124), (12, 125), (13, 126)] := hl.symm.trans (by kernel_rfl)
              have p0 : vs 0 = _ := hp 0 (by decide) (by decide)
              have p1 : vs 1 = _ := hp 1 (by decide) (by decide)
              clear hp hl
              refine opgoal (_) (some 127) rfl rfl fun K hK => ?_
              refine Runs.mk ?_
              simp only [putAll]
              go_simp
              refine hK _ _ ?_ hS ⟨fun h => absurd h (by decide), fun h => absurd h (by decide), fun h15 h17 => ((fun w => Keep.refl _ w) W)⟩ _ rfl rfl
              first | rfl | go_simp | simp
            · -- 15: Op.store 66 (Operand.tmp 127) (Operand.tmp 122)
              intro l hl vs W dn e1 e2 e3 hS hR hp
              have f15 : dn 15 = false := e1
              have f17 : dn 17 = false := e3 17 (by kernel_rfl)
              replace hS : (fun W => W.ownsRow base TM 7 (.slice (some ⟨g, 0, none⟩) n c) n ((if (dn 17) then ((T1.set ii (y1, y2, y3, y4, y5, y6, y7)).set jj (x1, x2, x3, x4, x5, x6, x7)) else if (dn 15) then T1.set ii (y1, y2, y3, y4, y5, y6, y7) else T1).flatMap encT)) W := hS
              rw [f15, f17] at hS
              have g15 : (dn 15 || ((15 : Nat) == 15)) = true := by rw [f15]; rfl
              have g17 : (dn 17 || ((15 : Nat) == 17)) = false := by rw [f17]; rfl
              refine OpGoal.imp (S1 := fun W => W.ownsRow base TM 7 (.slice (some ⟨g, 0, none⟩) n c) n ((if false then ((T1.set ii (y1, y2, y3, y4, y5, y6, y7)).set jj (x1, x2, x3, x4, x5, x6, x7)) else if true then T1.set ii (y1, y2, y3, y4, y5, y6, y7) else T1).flatMap encT)) (fun W' h => ?_) ?_
              · show (fun W => W.ownsRow base TM 7 (.slice (some ⟨g, 0, none⟩) n c) n ((if (dn 17 || ((15 : Nat) == 17)) then ((T1.set ii (y1, y2, y3, y4, y5, y6, y7)).set jj (x1, x2, x3, x4, x5, x6, x7)) else if (dn 15 || ((15 : Nat) == 15)) then T1.set ii (y1, y2, y3, y4, y5, y6, y7) else T1).flatMap encT)) W'
                rw [g15, g17]
                exact h
              clear g15 g17 e1 e2 e3
              obtain rfl : l = [(0, 113), (1, 114), (5, 118), (6, 119), (7, 120), (8, 121), (9, 122), (10, 123), (11, 124), (12, 125), (13, 126), (14, 127)] := hl.symm.trans (by kernel_rfl)
              have p9 : vs 9 = _ := hp 9 (by decide) (by decide)
              have p14 : vs 14 = _ := hp 14 (by decide) (by decide)
              clear hp hl
              refine opgoal ({ dst := none, op := Op.store 66 (Operand.tmp 127) (Operand.tmp 122), type := 0, pos := "zsortanyfunc.go:422", after := #[{ on := 14, ground := Ground.data }, { on := 9, ground := Ground.data }, { on := 0, ground := Ground.phase }, { on := 1, ground := Ground.phase }, { on := 2, ground := Ground.textOnly Departure.lateStores }, { on := 3, ground := Ground.textOnly Departure.lateStores }, { on := 4, ground := Ground.textOnly Departure.lateStores }, { on := 5, ground := Ground.phase }, { on := 6, ground := Ground.phase }, { on := 7, ground := Ground.phase }, { on := 8, ground := Ground.phase }, { on := 9, ground := Ground.phase }, { on := 10, ground := Ground.textOnly Departure.lateStores }, { on := 11, ground := Ground.textOnly Departure.lateStores }, { on := 12, ground := Ground.textOnly Departure.lateStoresUnsure }, { on := 13, ground := Ground.phase }], guard := none }) (none) rfl rfl fun K hK => ?_
              obtain ⟨cur, hcur, hcs, hput⟩ := own_setT hS HL0.out hii (y1, y2, y3, y4, y5, y6, y7)
              refine runs_store_blk (wanted_none rfl) TM (.tmp 127) (.tmp 122) rfl g (ii * 7) (eval_putAll (j := 14) (by simp) (by decide) (by intro k hk; simpa using hk) p14) TM cur (.agg #[.int .i64 y1, .int .i64 y2, .int .i64 y3, .int .i64 y4, .int .i64 y5, .int .i64 y6, .int .i64 y7]) (eval_putAll (j := 9) (by simp) (by decide) (by intro k hk; simpa using hk) p9) hcur (by kernel_rfl) hcs (by simp [Value.cells, Value.oneCell']) _ rfl ?_
              intro w5 hg5 hu5
              have hkk := keep_upd hu5
              exact hK undef _ trivial (hput w5 hg5) ⟨(fun _ => hkk), (fun h => absurd h (by decide)), fun h1 h2 => absurd rfl h1⟩ _ put_dfs rfl
            · -- 16: Op.indexAddr 61 (Operand.tmp 115) (Operand.tmp 117)
              intro l hl vs W dn e1 e2 e3 hS hR hp
              have f15 : dn 15 = true := e2 15 (by kernel_rfl)
              have f17 : dn 17 = false := e3 17 (by kernel_rfl)
              replace hS : (fun W => W.ownsRow base TM 7 (.slice (some ⟨g, 0, none⟩) n c) n ((if (dn 17) then ((T1.set ii (y1, y2, y3, y4, y5, y6, y7)).set jj (x1, x2, x3, x4, x5, x6, x7)) else if (dn 15) then T1.set ii (y1, y2, y3, y4, y5, y6, y7) else T1).flatMap encT)) W := hS
              rw [f15, f17] at hS
              have g15 : (dn 15 || ((16 : Nat) == 15)) = true := by rw [f15]; rfl
              have g17 : (dn 17 || ((16 : Nat) == 17)) = false := by rw [f17]; rfl
              refine OpGoal.imp (S1 := fun W => W.ownsRow base TM 7 (.slice (some ⟨g, 0, none⟩) n c) n ((if false then ((T1.set ii (y1, y2, y3, y4, y5, y6, y7)).set jj (x1, x2, x3, x4, x5, x6, x7)) else if true then T1.set ii (y1, y2, y3, y4, y5, y6, y7) else T1).flatMap encT)) (fun W' h => ?_) ?_
              · show (fun W => W.ownsRow base TM 7 (.slice (some ⟨g, 0, none⟩) n c) n ((if (dn 17 || ((16 : Nat) == 17)) then ((T1.set ii (y1, y2, y3, y4, y5, y6, y7)).set jj (x1, x2, x3, x4, x5, x6, x7)) else if (dn 15 || ((16 : Nat) == 15)) then T1.set ii (y1, y2, y3, y4, y5, y6, y7) else T1).flatMap encT)) W'
                rw [g15, g17]
                exact h
              clear g15 g17 e1 e2 e3
              obtain rfl : l = [(0, 113), (1, 114), (2, 115), (3, 116), (4, 117), (5, 118), (6, 119), (7, 120), (8, 121), (9, 122), (10, 123), (11, 124), (12, 125), (13, 126), (14, 127)] := hl.symm.trans (by kernel_rfl)
              have p2 : vs 2 = _ := hp 2 (by decide) (by decide)
              have p4 : vs 4 = _ := hp 4 (by decide) (by decide)
              clear hp hl
              refine opgoal (_) (some 128) rfl rfl fun K hK => ?_
              refine Runs.mk ?_
              simp only [putAll]
              go_simp
              refine hK _ _ ?_ hS ⟨fun h => absurd h (by decide), fun h => absurd h (by decide), fun h15 h17 => ((fun w => Keep.refl _ w) W)⟩ _ rfl rfl
              first | rfl | go_simp | simp
            · -- 17: Op.store 66 (Operand.tmp 128) (Operand.tmp 126)
              intro l hl vs W dn e1 e2 e3 hS hR hp
              have f15 : dn 15 = true := e2 15 (by kernel_rfl)
              have f17 : dn 17 = false := e1
              replace hS : (fun W => W.ownsRow base TM 7 (.slice (some ⟨g, 0, none⟩) n c) n ((if (dn 17) then ((T1.set ii (y1, y2, y3, y4, y5, y6, y7)).set jj (x1, x2, x3, x4, x5, x6, x7)) else if (dn 15) then T1.set ii (y1, y2, y3, y4, y5, y6, y7) else T1).flatMap encT)) W := hS
              rw [f15, f17] at hS
              have g15 : (dn 15 || ((17 : Nat) == 15)) = true := by rw [f15]; rfl
              have g17 : (dn 17 || ((17 : Nat) == 17)) = true := by rw [f17]; rfl
              refine OpGoal.imp (S1 := fun W => W.ownsRow base TM 7 (.slice (some ⟨g, 0, none⟩) n c) n ((if true then ((T1.set ii (y1, y2, y3, y4, y5, y6, y7)).set jj (x1, x2, x3, x4, x5, x6, x7)) else if true then T1.set ii (y1, y2, y3, y4, y5, y6, y7) else T1).flatMap encT)) (fun W' h => ?_) ?_
              · show (fun W => W.ownsRow base TM 7 (.slice (some ⟨g, 0, none⟩) n c) n ((if (dn 17 || ((17 : Nat) == 17)) then ((T1.set ii (y1, y2, y3, y4, y5, y6, y7)).set jj (x1, x2, x3, x4, x5, x6, x7)) else if (dn 15 || ((17 : Nat) == 15)) then T1.set ii (y1, y2, y3, y4, y5, y6, y7) else T1).flatMap encT)) W'
                rw [g15, g17]
                exact h
              clear g15 g17 e1 e2 e3
              obtain rfl : l = [(0, 113), (1, 114), (2, 115), (3, 116), (4, 117), (5, 118), (6, 119), (7, 120), (8, 121), (9, 122), (10, 123), (11, 124), (12, 125), (13, 126), (14, 127), (16, 128)] := hl.symm.trans (by kernel_rfl)
              have p13 : vs 13 = _ := hp 13 (by decide) (by decide)
              have p16 : vs 16 = _ := hp 16 (by decide) (by decide)
              clear hp hl
              refine opgoal ({ dst := none, op := Op.store 66 (Operand.tmp 128) (Operand.tmp 126), type := 0, pos := "zsortanyfunc.go:422", after := #[{ on := 16, ground := Ground.data }, { on := 13, ground := Ground.data }, { on := 15, ground := Ground.chain }, { on := 0, ground := Ground.phase }, { on := 1, ground := Ground.phase }, { on := 2, ground := Ground.phase }, { on := 3, ground := Ground.phase }, { on := 4, ground := Ground.phase }, { on := 5, ground := Ground.phase }, { on := 6, ground := Ground.phase }, { on := 7, ground := Ground.phase }, { on := 8, ground := Ground.phase }, { on := 9, ground := Ground.phase }, { on := 10, ground := Ground.phase }, { on := 11, ground := Ground.phase }, { on := 12, ground := Ground.phase }, { on := 13, ground := Ground.phase }, { on := 14, ground := Ground.phase }, { on := 15, ground := Ground.phase }], guard := none }) (none) rfl rfl fun K hK => ?_
              obtain ⟨cur, hcur, hcs, hput⟩ := own_setT hS HL1.out hjj (x1, x2, x3, x4, x5, x6, x7)
              refine runs_store_blk (wanted_none rfl) TM (.tmp 128) (.tmp 126) rfl g (jj * 7) (eval_putAll (j := 16) (by simp) (by decide) (by intro k hk; simpa using hk) p16) TM cur (.agg #[.int .i64 x1, .int .i64 x2, .int .i64 x3, .int .i64 x4, .int .i64 x5, .int .i64 x6, .int .i64 x7]) (eval_putAll (j := 13) (by simp) (by decide) (by intro k hk; simpa using hk) p13) hcur (by kernel_rfl) hcs (by simp [Value.cells, Value.oneCell']) _ rfl ?_
              intro w5 hg5 hu5
              have hkk := keep_upd hu5
              exact hK undef _ trivial (hput w5 hg5) ⟨(fun h => absurd h (by decide)), (fun _ => hkk), fun h1 h2 => absurd rfl h2⟩ _ put_dfs rfl
          · intro l hl vs W dn hd hS hR hp
            replace hS : (fun W => W.ownsRow base TM 7 (.slice (some ⟨g, 0, none⟩) n c) n ((if (dn 17) then ((T1.set ii (y1, y2, y3, y4, y5, y6, y7)).set jj (x1, x2, x3, x4, x5, x6, x7)) else if (dn 15) then T1.set ii (y1, y2, y3, y4, y5, y6, y7) else T1).flatMap encT)) W := hS
            rw [hd 15 (by decide), hd 17 (by decide)] at hS
            obtain rfl : l = [(0, 113), (1, 114), (2, 115), (3, 116), (4, 117), (5, 118), (6, 119), (7, 120), (8, 121), (9, 122), (10, 123), (11, 124), (12, 125), (13, 126), (14, 127), (16, 128)] := hl.symm.trans (by kernel_rfl)
            have p0 : vs 0 = _ := hp 0 (by decide) (by decide)
            have p1 : vs 1 = _ := hp 1 (by decide) (by decide)
            have p2 : vs 2 = _ := hp 2 (by decide) (by decide)
            have p3 : vs 3 = _ := hp 3 (by decide) (by decide)
            have p4 : vs 4 = _ := hp 4 (by decide) (by decide)
            have p5 : vs 5 = _ := hp 5 (by decide) (by decide)
            have p6 : vs 6 = _ := hp 6 (by decide) (by decide)
            have p7 : vs 7 = _ := hp 7 (by decide) (by decide)
            have p8 : vs 8 = _ := hp 8 (by decide) (by decide)
            have p9 : vs 9 = _ := hp 9 (by decide) (by decide)
            have p10 : vs 10 = _ := hp 10 (by decide) (by decide)
            have p11 : vs 11 = _ := hp 11 (by decide) (by decide)
            have p12 : vs 12 = _ := hp 12 (by decide) (by decide)
            have p13 : vs 13 = _ := hp 13 (by decide) (by decide)
            have p14 : vs 14 = _ := hp 14 (by decide) (by decide)
            have p16 : vs 16 = _ := hp 16 (by decide) (by decide)
            clear hp hl
            simp only [putAll_mk, setAll, List.setIfInBounds_toArray, List.set_cons_succ, List.set_cons_zero, p0, p1, p2, p3, p4, p5, p6, p7, p8, p9, p10, p11, p12, p13, p14, p16]
            replace hS : W.ownsRow base TM 7 (.slice (some ⟨g, 0, none⟩) n c) n (((T1.set ii (y1, y2, y3, y4, y5, y6, y7)).set jj (x1, x2, x3, x4, x5, x6, x7)).flatMap encT) := hS
            have HS := Lib.hid hS
            have HR := Lib.hid hR
            clear hS hR hS0
            go_wp2_with fail
            go_roundg (m0 - R - (k + 1))
            case measure => omega
            case rel => exact ⟨k + 1, rfl, by rw [HJE.out], by omega, Lib.hid ⟨by rw [HN.out]; exact HS.out, HI.out.2.trans ((Keep.refl [g] wr).drew.trans HR.out)⟩⟩
        · obtain rfl : k = m0 - R := by omega
          have d2 : decide ((R : Int) < (ii : Int)) = false := by simp; omega
          have d2n : decide (R < ii) = false := by simp; omega
          clear hii0
          go_wp2_with fail
          refine bodyPost_ret (results_none rfl _ _ _) rfl ?_
          exact ⟨rfl, HI.out.1, HI.out.2⟩
end Go.Proofs.Ytbifmdepkbgnjaa.Wh

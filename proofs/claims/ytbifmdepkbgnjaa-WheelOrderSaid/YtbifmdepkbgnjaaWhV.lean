/- wheel: the sort's walk: insertion sort. -/
import Derived.Test.YtbifmdepkbgnjaaWhU
import Derived.BigQuiet
namespace Go.Proofs.Ytbifmdepkbgnjaa.Wh
open Go.RowKit Go.Proofs.Ytbifmdepkbgnjaa.L Go.Proofs.Ytbifmdepkbgnjaa.R Go.Proofs.Ytbifmdepkbgnjaa.A Go.Proofs.Ytbifmdepkbgnjaa.S Go.Proofs.Ytbifmdepkbgnjaa.T Go.Proofs.Ytbifmdepkbgnjaa.C Go.Proofs.Ytbifmdepkbgnjaa.G Go.Proofs.Ytbifmdepkbgnjaa.E Go.Proofs.Ytbifmdepkbgnjaa.F
set_option linter.unusedVariables false
set_option linter.unusedSimpArgs false

theorem Srt.below {base g c n : Nat} {w W W' : World} {T : List Tm} (h : Srt base g c n w W T) (hb : Below W.heap.size W W') : Srt base g c n w W' T := ⟨own_kept h.1 hb, h.2.trans (.of_below hb)⟩
set_option maxHeartbeats 8000000 in
set_option maxRecDepth 100000 in
theorem ins_any (base g c n a0 b0 : Nat) (T : List Tm) (w W0 : World) (h : Srt base g c n w W0 T) (hn : n ≤ 1000000) (hab : a0 ≤ b0) (hb : b0 ≤ n) :
    Calls Try.prog 38 #[.slice (some ⟨g, 0, none⟩) n c, .int .i64 a0, .int .i64 b0, .func (.func 31) #[] #[]] W0 fun e w' => e = .returned (.tuple #[]) ∧ Srt base g c n w w' (insS T a0 (b0 - (a0 + 1))) := by
  have HH := Lib.hid h
  have hbd := bodied_cmp1
  unfold Bodied at hbd
  obtain ⟨r, hr⟩ : ∃ r, b0 - (a0 + 1) = r := ⟨_, rfl⟩
  have HRR : Hid (b0 - (a0 + 1) = r) := Lib.hid hr
  rw [hr]
  clear h hr
  go_enter Try.func38, Try.ntmps38
  go_wp2_with fail
  go_loopw [8] (fun iv wr => ∃ k : Nat, k ≤ r ∧ iv = .int .i64 ((a0 : Int) + 1 + (k : Int)) ∧ Hid (Srt base g c n w wr (insS T a0 k))) (fun iv _ => b0 + 1 - (intOf iv).toNat)
  case atStart => exact ⟨0, by omega, by simp, Lib.hid HH.out⟩
  case round =>
    obtain ⟨k, hk, rfl, HI⟩ := hrel
    have hrr := HRR.out
    by_cases hlt : a0 + 1 + k < b0
    · obtain ⟨i0, hi0⟩ : ∃ i0, a0 + 1 + k = i0 := ⟨_, rfl⟩
      have e1 : (a0 : Int) + 1 + (k : Int) = (i0 : Int) := by omega
      have d1 : decide ((i0 : Int) < (b0 : Int)) = true := by simp; omega
      have d1n : decide (i0 < b0) = true := by simp; omega
      have HFIN : Hid (sink a0 (insS T a0 k) i0 = insS T a0 (k + 1)) := Lib.hid (by rw [insS, hi0])
      obtain ⟨R, hR⟩ : ∃ R, insS T a0 (k + 1) = R := ⟨_, rfl⟩
      rw [hR] at HFIN
      have HR := Lib.hid hR
      have HI0 := Lib.hid hi0
      have hi9 : i0 < n := by omega
      have hk9 : k < r := by omega
      rw [e1]
      have HE1 := Lib.hid e1
      clear hR hi0 e1 hrr
      go_wp2_with fail
      go_loopg [9] i0 (fun gk jv wr => ∃ (ii : Nat) (T0 : List Tm), gk = ii ∧ jv = .int .i64 ii ∧ ii < n ∧ Hid (Srt base g c n w wr T0 ∧ sink a0 T0 ii = R))
      case atStart => exact ⟨i0, _, rfl, rfl, hi9, Lib.hid ⟨HI.out, HFIN.out⟩⟩
      case round =>
        obtain ⟨ii, T0, hgk, rfl, hii, HJ⟩ := hrel
        by_cases hgt : a0 < ii
        · obtain ⟨jj, hjj⟩ : ∃ jj, ii = jj + 1 := ⟨ii - 1, by omega⟩
          have hl0 := HJ.out.1.len
          obtain ⟨x, hx⟩ : ∃ x, T0[ii]? = some x := ⟨_, List.getElem?_eq_getElem (by omega)⟩
          obtain ⟨y, hy⟩ : ∃ y, T0[jj]? = some y := ⟨_, List.getElem?_eq_getElem (by omega)⟩
          obtain ⟨q, hq⟩ : ∃ q, lt x y = q := ⟨_, rfl⟩
          have hsk := HJ.out.2
          subst hjj
          rw [sink, ltAt_at hx hy, hq, swp_at hx hy] at hsk
          have HTRUE : Hid (q = true → sink a0 ((T0.set (jj + 1) y).set jj x) jj = R) := Lib.hid fun e => by rw [if_pos ⟨hgt, e⟩] at hsk; exact hsk
          have HFALSE : Hid (q = false → T0 = R) := Lib.hid fun e => by rw [if_neg (by rw [e]; simp)] at hsk; exact hsk
          have HCMP := Lib.hid fun W => cmp1 x y W
          obtain ⟨cv, hcv⟩ : ∃ cv, cmpT x y = cv := ⟨_, rfl⟩
          have HQ : Hid (decide (cv < 0) = q) := Lib.hid (by rw [← hcv, cmp_lt]; exact hq)
          rw [hcv] at HCMP
          have HL0 := Lib.hid hl0
          have HL1 : Hid ((T0.set (jj + 1) y).length = n) := Lib.hid (by rw [List.length_set]; exact hl0)
          have HCI := Lib.hid (fun (W : World) (h : W.ownsRow base TM 7 (.slice (some ⟨g, 0, none⟩) n c) n (T0.flatMap encT)) => own_getT h hx)
          have HCJ := Lib.hid (fun (W : World) (h : W.ownsRow base TM 7 (.slice (some ⟨g, 0, none⟩) n c) n (T0.flatMap encT)) => own_getT h hy)
          obtain ⟨ii, hiie⟩ : ∃ ii, jj + 1 = ii := ⟨_, rfl⟩
          have HJJ : Hid (IntKind.i64.wrap ((ii : Int) - 1) = (jj : Int)) := Lib.hid (by rw [IntKind.wrap_i64]; omega)
          have HJE : Hid ((ii : Int) - 1 = (jj : Int)) := Lib.hid (by omega)
          have HG : Hid (decide ((a0 : Int) < (ii : Int)) = true ∧ decide (a0 < ii) = true) := Lib.hid ⟨by simp; omega, by simp; omega⟩
          have hjn : jj < n := by omega
          have hjlt : jj < ii := by omega
          have hiI : (ii : Int) < (n : Int) := by omega
          have hjI : (jj : Int) < (n : Int) := by omega
          have hS0 : Srt base g c n w wr.drew T0 := HJ.out.1.below (below_drewN 1 wr)
          have HS0 := Lib.hid hS0
          have hjj : jj < n := hjn
          rw [hiie] at HTRUE HL1 HCI hii hgk
          simp only [hiie]
          obtain ⟨x1, x2, x3, x4, x5, x6, x7⟩ := x
          obtain ⟨y1, y2, y3, y4, y5, y6, y7⟩ := y
          dsimp only [aggT] at HCI HCJ HTRUE HL1 HCMP
          clear hS0 hx hy hl0 hq hcv hsk hgt hiie d1 d1n
          go_wp2_with fail
          have hS0 := HS0.out
          refine wp_region_one (fun W => Srt base g c n w W T0) (fun u v => Below u.heap.size u v) (fun a i => match i with
              | 0 => (fun v _ => v = .int .i64 (ii : Int))
              | 1 => (fun v _ => v = .int .i64 (a0 : Int))
              | 2 => (fun v _ => v = .bool true)
              | 3 => (fun v _ => v = .bool true)
              | 4 => (fun v _ => v = .func (.func 31) #[] #[])
              | 5 => (fun v _ => v = .slice (some ⟨g, 0, none⟩) n c)
              | 6 => (fun v _ => v = .int .i64 (ii : Int))
              | 7 => (fun v _ => v = .pointer (some ⟨g, ii * 7, none⟩))
              | 8 => (fun v _ => v = .agg #[.int .i64 x1, .int .i64 x2, .int .i64 x3, .int .i64 x4, .int .i64 x5, .int .i64 x6, .int .i64 x7])
              | 9 => (fun v _ => v = .slice (some ⟨g, 0, none⟩) n c)
              | 10 => (fun v _ => v = .int .i64 (ii : Int))
              | 11 => (fun v _ => v = .int .i64 (jj : Int))
              | 12 => (fun v _ => v = .pointer (some ⟨g, jj * 7, none⟩))
              | 13 => (fun v _ => v = .agg #[.int .i64 y1, .int .i64 y2, .int .i64 y3, .int .i64 y4, .int .i64 y5, .int .i64 y6, .int .i64 y7])
              | 14 => (fun v _ => v = .int .i64 cv)
              | 15 => (fun v _ => v = .bool q)
              | 16 => (fun v _ => v = .bool q)
              | _ => (fun _ _ => True)) #[0, 0, 3, 7, 15, 15, 15, 111, 239, 15, 15, 1039, 3599, 7695, 16383, 32767, 65535] #[0, 0, 3, 4, 8, 8, 8, 104, 136, 8, 8, 1032, 2568, 4104, 8472, 16392, 32776] 131071 (by kernel_rfl) 17 rfl (fun m hm => by subst hm; kernel_rfl) (by kernel_rfl) (fun w => Below.refl _ w) (fun u v w h1 h2 => below2 h1 h2) ?_ (hS0) ?_ ?_
          · intro i hi
            rcases (by omega : i = 0 ∨ i = 1 ∨ i = 2 ∨ i = 3 ∨ i = 4 ∨ i = 5 ∨ i = 6 ∨ i = 7 ∨ i = 8 ∨ i = 9 ∨ i = 10 ∨ i = 11 ∨ i = 12 ∨ i = 13 ∨ i = 14 ∨ i = 15 ∨ i = 16) with rfl | rfl | rfl | rfl | rfl | rfl | rfl | rfl | rfl | rfl | rfl | rfl | rfl | rfl | rfl | rfl | rfl
            · exact fun v w w' h hr => by exact h
            · exact fun v w w' h hr => by exact h
            · exact fun v w w' h hr => by exact h
            · exact fun v w w' h hr => by exact h
            · exact fun v w w' h hr => by exact h
            · exact fun v w w' h hr => by exact h
            · exact fun v w w' h hr => by exact h
            · exact fun v w w' h hr => by exact h
            · exact fun v w w' h hr => by exact h
            · exact fun v w w' h hr => by exact h
            · exact fun v w w' h hr => by exact h
            · exact fun v w w' h hr => by exact h
            · exact fun v w w' h hr => by exact h
            · exact fun v w w' h hr => by exact h
            · exact fun v w w' h hr => by exact h
            · exact fun v w w' h hr => by exact h
            · exact fun v w w' h hr => by exact h
          · intro i hi
            rcases (by omega : i = 0 ∨ i = 1 ∨ i = 2 ∨ i = 3 ∨ i = 4 ∨ i = 5 ∨ i = 6 ∨ i = 7 ∨ i = 8 ∨ i = 9 ∨ i = 10 ∨ i = 11 ∨ i = 12 ∨ i = 13 ∨ i = 14 ∨ i = 15 ∨ i = 16) with rfl | rfl | rfl | rfl | rfl | rfl | rfl | rfl | rfl | rfl | rfl | rfl | rfl | rfl | rfl | rfl | rfl
            · -- 0: Op.move (Operand.tmp 9)
              intro l hl vs W hS hR hp
              obtain rfl : l = [] := hl.symm.trans (by kernel_rfl)
              clear hp hl
              refine opgoal (_) (some 18) rfl rfl fun K hK => ?_
              refine Runs.mk ?_
              simp only [putAll]
              go_simp
              refine hK _ _ ?_ hS ((fun w => Below.refl _ w) W) _ rfl rfl
              first | rfl | go_simp | simp
            · -- 1: Op.move (Operand.tmp 1)
              intro l hl vs W hS hR hp
              obtain rfl : l = [] := hl.symm.trans (by kernel_rfl)
              clear hp hl
              refine opgoal (_) (some 19) rfl rfl fun K hK => ?_
              refine Runs.mk ?_
              simp only [putAll]
              go_simp
              refine hK _ _ ?_ hS ((fun w => Below.refl _ w) W) _ rfl rfl
              first | rfl | go_simp | simp
            · -- 2: Op.binOp BinOp.gtr 3 (Operand.tmp 18) (Operand.tmp 19) 3
              intro l hl vs W hS hR hp
              obtain rfl : l = [(0, 18), (1, 19)] := hl.symm.trans (by kernel_rfl)
              have p0 : vs 0 = _ := hp 0 (by decide) (by decide)
              have p1 : vs 1 = _ := hp 1 (by decide) (by decide)
              clear hp hl
              refine opgoal (_) (some 20) rfl rfl fun K hK => ?_
              have hg1 := HG.out.1
              have hg2 := HG.out.2
              refine Runs.mk ?_
              simp only [putAll]
              go_simp
              refine hK _ _ ?_ hS ((fun w => Below.refl _ w) W) _ rfl rfl
              first | rfl | go_simp | simp
            · -- 3: Op.move (Operand.tmp 20)
              intro l hl vs W hS hR hp
              obtain rfl : l = [(0, 18), (1, 19), (2, 20)] := hl.symm.trans (by kernel_rfl)
              have p2 : vs 2 = _ := hp 2 (by decide) (by decide)
              clear hp hl
              refine opgoal (_) (some 21) rfl rfl fun K hK => ?_
              refine Runs.mk ?_
              simp only [putAll]
              go_simp
              refine hK _ _ ?_ hS ((fun w => Below.refl _ w) W) _ rfl rfl
              first | rfl | go_simp | simp
            · -- 4: Op.move (Operand.tmp 3)  [(3, 'true')]
              intro l hl vs W hS hR hp
              obtain rfl : l = [(0, 18), (1, 19), (2, 20), (3, 21)] := hl.symm.trans (by kernel_rfl)
              have p3 : vs 3 = _ := hp 3 (by decide) (by decide)
              clear hp hl
              refine opgoal (_) (some 22) rfl rfl fun K hK => ?_
              refine Runs.mk ?_
              simp only [putAll]
              go_simp
              refine hK _ _ ?_ hS ((fun w => Below.refl _ w) W) _ rfl rfl
              first | rfl | go_simp | simp
            · -- 5: Op.move (Operand.tmp 0)  [(3, 'true')]
              intro l hl vs W hS hR hp
              obtain rfl : l = [(0, 18), (1, 19), (2, 20), (3, 21)] := hl.symm.trans (by kernel_rfl)
              have p3 : vs 3 = _ := hp 3 (by decide) (by decide)
              clear hp hl
              refine opgoal (_) (some 23) rfl rfl fun K hK => ?_
              refine Runs.mk ?_
              simp only [putAll]
              go_simp
              refine hK _ _ ?_ hS ((fun w => Below.refl _ w) W) _ rfl rfl
              first | rfl | go_simp | simp
            · -- 6: Op.move (Operand.tmp 9)  [(3, 'true')]
              intro l hl vs W hS hR hp
              obtain rfl : l = [(0, 18), (1, 19), (2, 20), (3, 21)] := hl.symm.trans (by kernel_rfl)
              have p3 : vs 3 = _ := hp 3 (by decide) (by decide)
              clear hp hl
              refine opgoal (_) (some 24) rfl rfl fun K hK => ?_
              refine Runs.mk ?_
              simp only [putAll]
              go_simp
              refine hK _ _ ?_ hS ((fun w => Below.refl _ w) W) _ rfl rfl
              first | rfl | go_simp | simp
            · -- 7: Op.indexAddr 61 (Operand.tmp 23) (Operand.tmp 24)  [(3, 'true')]
              intro l hl vs W hS hR hp
              obtain rfl : l = [(0, 18), (1, 19), (2, 20), (3, 21), (5, 23), (6, 24)] := hl.symm.trans (by kernel_rfl)
              have p3 : vs 3 = _ := hp 3 (by decide) (by decide)
              have p5 : vs 5 = _ := hp 5 (by decide) (by decide)
              have p6 : vs 6 = _ := hp 6 (by decide) (by decide)
              clear hp hl
              refine opgoal (_) (some 25) rfl rfl fun K hK => ?_
              refine Runs.mk ?_
              simp only [putAll]
              go_simp
              refine hK _ _ ?_ hS ((fun w => Below.refl _ w) W) _ rfl rfl
              first | rfl | go_simp | simp
            · -- 8: Op.load 66 (Operand.tmp 25)  [(3, 'true')]
              intro l hl vs W hS hR hp
              obtain rfl : l = [(0, 18), (1, 19), (2, 20), (3, 21), (5, 23), (6, 24), (7, 25)] := hl.symm.trans (by kernel_rfl)
              have p3 : vs 3 = _ := hp 3 (by decide) (by decide)
              have p7 : vs 7 = _ := hp 7 (by decide) (by decide)
              clear hp hl
              refine opgoal (_) (some 26) rfl rfl fun K hK => ?_
              obtain ⟨e0, e1, e2, e3, e4, e5, e6⟩ := HCI.out W hS.1
              refine Runs.mk ?_
              simp only [putAll]
              go_simp
              refine hK _ _ ?_ hS ((fun w => Below.refl _ w) W) _ rfl rfl
              first | rfl | go_simp | simp
            · -- 9: Op.move (Operand.tmp 0)  [(3, 'true')]
              intro l hl vs W hS hR hp
              obtain rfl : l = [(0, 18), (1, 19), (2, 20), (3, 21)] := hl.symm.trans (by kernel_rfl)
              have p3 : vs 3 = _ := hp 3 (by decide) (by decide)
              clear hp hl
              refine opgoal (_) (some 27) rfl rfl fun K hK => ?_
              refine Runs.mk ?_
              simp only [putAll]
              go_simp
              refine hK _ _ ?_ hS ((fun w => Below.refl _ w) W) _ rfl rfl
              first | rfl | go_simp | simp
            · -- 10: Op.move (Operand.tmp 9)  [(3, 'true')]
              intro l hl vs W hS hR hp
              obtain rfl : l = [(0, 18), (1, 19), (2, 20), (3, 21)] := hl.symm.trans (by kernel_rfl)
              have p3 : vs 3 = _ := hp 3 (by decide) (by decide)
              clear hp hl
              refine opgoal (_) (some 28) rfl rfl fun K hK => ?_
              refine Runs.mk ?_
              simp only [putAll]
              go_simp
              refine hK _ _ ?_ hS ((fun w => Below.refl _ w) W) _ rfl rfl
              first | rfl | go_simp | simp
            · -- 11: Op.binOp BinOp.sub 3 (Operand.tmp 28) (Operand.const (Value.int IntKind.i64 1)) 3  [(3, 'true')]
              intro l hl vs W hS hR hp
              obtain rfl : l = [(0, 18), (1, 19), (2, 20), (3, 21), (10, 28)] := hl.symm.trans (by kernel_rfl)
              have p3 : vs 3 = _ := hp 3 (by decide) (by decide)
              have p10 : vs 10 = _ := hp 10 (by decide) (by decide)
              clear hp hl
              refine opgoal (_) (some 29) rfl rfl fun K hK => ?_
              have hw := HJJ.out
              refine Runs.mk ?_
              simp only [putAll]
              go_simp
              refine hK _ _ ?_ hS ((fun w => Below.refl _ w) W) _ rfl rfl
              first | rfl | go_simp | simp
            · -- 12: Op.indexAddr 61 (Operand.tmp 27) (Operand.tmp 29)  [(3, 'true')]
              intro l hl vs W hS hR hp
              obtain rfl : l = [(0, 18), (1, 19), (2, 20), (3, 21), (9, 27), (10, 28), (11, 29)] := hl.symm.trans (by kernel_rfl)
              have p3 : vs 3 = _ := hp 3 (by decide) (by decide)
              have p9 : vs 9 = _ := hp 9 (by decide) (by decide)
              have p11 : vs 11 = _ := hp 11 (by decide) (by decide)
              clear hp hl
              refine opgoal (_) (some 30) rfl rfl fun K hK => ?_
              refine Runs.mk ?_
              simp only [putAll]
              go_simp
              refine hK _ _ ?_ hS ((fun w => Below.refl _ w) W) _ rfl rfl
              first | rfl | go_simp | simp
            · -- 13: Op.load 66 (Operand.tmp 30)  [(3, 'true')]
              intro l hl vs W hS hR hp
              obtain rfl : l = [(0, 18), (1, 19), (2, 20), (3, 21), (9, 27), (10, 28), (11, 29), (12, 30)] := hl.symm.trans (by kernel_rfl)
              have p3 : vs 3 = _ := hp 3 (by decide) (by decide)
              have p12 : vs 12 = _ := hp 12 (by decide) (by decide)
              clear hp hl
              refine opgoal (_) (some 31) rfl rfl fun K hK => ?_
              obtain ⟨e0, e1, e2, e3, e4, e5, e6⟩ := HCJ.out W hS.1
              refine Runs.mk ?_
              simp only [putAll]
              go_simp
              refine hK _ _ ?_ hS ((fun w => Below.refl _ w) W) _ rfl rfl
              first | rfl | go_simp | simp
            · -- 14: Op.call { callee := Callee.value (Operand.tmp 22), args := #[Operand.tmp 26, Operand.tmp 31], argTypes := #[66, 66] }  [(3, 'true')]
              intro l hl vs W hS hR hp
              obtain rfl : l = [(0, 18), (1, 19), (2, 20), (3, 21), (4, 22), (5, 23), (6, 24), (7, 25), (8, 26), (9, 27), (10, 28), (11, 29), (12, 30), (13, 31)] := hl.symm.trans (by kernel_rfl)
              have p3 : vs 3 = _ := hp 3 (by decide) (by decide)
              have p4 : vs 4 = _ := hp 4 (by decide) (by decide)
              have p8 : vs 8 = _ := hp 8 (by decide) (by decide)
              have p13 : vs 13 = _ := hp 13 (by decide) (by decide)
              clear hp hl
              refine opgoal (_) (some 32) rfl rfl fun K hK => ?_
              refine Runs.mk ?_
              simp only [putAll]
              go_simp
              refine (HCMP.out W).mono ?_
              rintro e w' ⟨rfl, hb⟩
              go_simp
              exact hK _ _ rfl (hS.below hb) hb _ rfl rfl
            · -- 15: Op.binOp BinOp.lss 3 (Operand.tmp 32) (Operand.const (Value.int IntKind.i64 0)) 3  [(3, 'true')]
              intro l hl vs W hS hR hp
              obtain rfl : l = [(0, 18), (1, 19), (2, 20), (3, 21), (4, 22), (5, 23), (6, 24), (7, 25), (8, 26), (9, 27), (10, 28), (11, 29), (12, 30), (13, 31), (14, 32)] := hl.symm.trans (by kernel_rfl)
              have p3 : vs 3 = _ := hp 3 (by decide) (by decide)
              have p14 : vs 14 = _ := hp 14 (by decide) (by decide)
              clear hp hl
              refine opgoal (_) (some 33) rfl rfl fun K hK => ?_
              have hq9 := HQ.out
              refine Runs.mk ?_
              simp only [putAll]
              go_simp
              refine hK _ _ ?_ hS ((fun w => Below.refl _ w) W) _ rfl rfl
              first | rfl | go_simp | simp
            · -- 16: Op.pick (Operand.tmp 21) (Operand.tmp 33) (Operand.const (Value.bool false))
              intro l hl vs W hS hR hp
              obtain rfl : l = [(0, 18), (1, 19), (2, 20), (3, 21), (4, 22), (5, 23), (6, 24), (7, 25), (8, 26), (9, 27), (10, 28), (11, 29), (12, 30), (13, 31), (14, 32), (15, 33)] := hl.symm.trans (by kernel_rfl)
              have p3 : vs 3 = _ := hp 3 (by decide) (by decide)
              have p15 : vs 15 = _ := hp 15 (by decide) (by decide)
              clear hp hl
              refine opgoal (_) (some 34) rfl rfl fun K hK => ?_
              refine Runs.mk ?_
              simp only [putAll]
              go_simp
              refine hK _ _ ?_ hS ((fun w => Below.refl _ w) W) _ rfl rfl
              first | rfl | go_simp | simp
          · intro l hl vs W hS hR hp
            obtain rfl : l = [(0, 18), (1, 19), (2, 20), (3, 21), (4, 22), (5, 23), (6, 24), (7, 25), (8, 26), (9, 27), (10, 28), (11, 29), (12, 30), (13, 31), (14, 32), (15, 33), (16, 34)] := hl.symm.trans (by kernel_rfl)
            have p0 : vs 0 = _ := hp 0 (by decide) (by decide)
            have p1 : vs 1 = _ := hp 1 (by decide) (by decide)
            have p2 : vs 2 = _ := hp 2 (by decide) (by decide)
            have p3 : vs 3 = _ := hp 3 (by decide) (by decide)
            have p4 : vs 4 = _ := hp 4 (by decide) (by decide)
            have p5 : vs 5 = _ := hp 5 (by decide) (by decide)
            have p6 : vs 6 = _ := hp 6 (by decide) (by decide)
            have p7 : vs 7 = _ := hp 7 (by decide) (by decide)
            have p8 : vs 8 = _ := hp 8 (by decide) (by decide)
            have p9 : vs 9 = _ := hp 9 (by decide) (by decide)
            have p10 : vs 10 = _ := hp 10 (by decide) (by decide)
            have p11 : vs 11 = _ := hp 11 (by decide) (by decide)
            have p12 : vs 12 = _ := hp 12 (by decide) (by decide)
            have p13 : vs 13 = _ := hp 13 (by decide) (by decide)
            have p14 : vs 14 = _ := hp 14 (by decide) (by decide)
            have p15 : vs 15 = _ := hp 15 (by decide) (by decide)
            have p16 : vs 16 = _ := hp 16 (by decide) (by decide)
            clear hp hl
            simp only [putAll_mk, setAll, List.setIfInBounds_toArray, List.set_cons_succ, List.set_cons_zero, p0, p1, p2, p3, p4, p5, p6, p7, p8, p9, p10, p11, p12, p13, p14, p15, p16]
            have HS8 := Lib.hid hS
            clear hS hR hS0
            obtain ⟨W2, hW2⟩ : ∃ W2, Hid (W = W2) := ⟨_, Lib.hid rfl⟩
            rw [hW2.out] at HS8 ⊢
            have HW2 := Lib.hid HS8.out.2
            cases q with
            | true =>
              have HN := Lib.hid (HTRUE.out rfl)
              have hS0 : W2.drew.ownsRow base TM 7 (.slice (some ⟨g, 0, none⟩) n c) n (T0.flatMap encT) := own_kept HS8.out.1 (below_drewN 1 W2)
              have HS0 := Lib.hid hS0
              clear hS0
              go_wp2_with fail
              have hS0 := HS0.out
              refine wp_region_done (fun dnf => fun W => W.ownsRow base TM 7 (.slice (some ⟨g, 0, none⟩) n c) n ((if (dnf 17) then ((T0.set ii (y1, y2, y3, y4, y5, y6, y7)).set jj (x1, x2, x3, x4, x5, x6, x7)) else if (dnf 15) then T0.set ii (y1, y2, y3, y4, y5, y6, y7) else T0).flatMap encT)) (fun u v => Keep [g] u v) (fun k u v => (k = 15 → (fun u v => Keep [g] u v) u v) ∧ (k = 17 → (fun u v => Keep [g] u v) u v) ∧ (¬ k = 15 → ¬ k = 17 → (fun u v => Keep [g] u v) u v)) (fun a i => match i with
                  | 0 => (fun v _ => v = .slice (some ⟨g, 0, none⟩) n c)
                  | 1 => (fun v _ => v = .int .i64 (ii : Int))
                  | 2 => (fun v _ => v = .slice (some ⟨g, 0, none⟩) n c)
                  | 3 => (fun v _ => v = .int .i64 (ii : Int))
                  | 4 => (fun v _ => v = .int .i64 (jj : Int))
                  | 5 => (fun v _ => v = .slice (some ⟨g, 0, none⟩) n c)
                  | 6 => (fun v _ => v = .int .i64 (ii : Int))
                  | 7 => (fun v _ => v = .int .i64 (jj : Int))
                  | 8 => (fun v _ => v = .pointer (some ⟨g, jj * 7, none⟩))
                  | 9 => (fun v _ => v = .agg #[.int .i64 y1, .int .i64 y2, .int .i64 y3, .int .i64 y4, .int .i64 y5, .int .i64 y6, .int .i64 y7])
                  | 10 => (fun v _ => v = .slice (some ⟨g, 0, none⟩) n c)
                  | 11 => (fun v _ => v = .int .i64 (ii : Int))
                  | 12 => (fun v _ => v = .pointer (some ⟨g, ii * 7, none⟩))
                  | 13 => (fun v _ => v = .agg #[.int .i64 x1, .int .i64 x2, .int .i64 x3, .int .i64 x4, .int .i64 x5, .int .i64 x6, .int .i64 x7])
                  | 14 => (fun v _ => v = .pointer (some ⟨g, ii * 7, none⟩))
                  | 15 => (fun v W => True)
                  | 16 => (fun v _ => v = .pointer (some ⟨g, jj * 7, none⟩))
                  | 17 => (fun v W => True)
                  | _ => (fun _ _ => True)) #[0, 0, 0, 0, 8, 0, 0, 64, 224, 480, 0, 0, 3072, 7168, 16355, 32739, 65535, 131071] #[0, 0, 0, 0, 8, 0, 0, 64, 160, 256, 0, 0, 3072, 4096, 3, 16896, 20, 73728] 98303 (by kernel_rfl) 18 rfl (fun m hm => by subst hm; kernel_rfl) (by kernel_rfl) (fun w => Keep.refl _ w) (fun u v w h1 h2 => h1.trans h2) ?_ ?_ (hS0) ?_ ?_
              · intro k u v hk hr
                by_cases hs15 : k = 15
                · have h := hr.1 hs15; exact h
                by_cases hs17 : k = 17
                · have h := hr.2.1 hs17; exact h
                have h := hr.2.2 hs15 hs17; exact h
              · intro i hi
                rcases (by omega : i = 0 ∨ i = 1 ∨ i = 2 ∨ i = 3 ∨ i = 4 ∨ i = 5 ∨ i = 6 ∨ i = 7 ∨ i = 8 ∨ i = 9 ∨ i = 10 ∨ i = 11 ∨ i = 12 ∨ i = 13 ∨ i = 14 ∨ i = 15 ∨ i = 16 ∨ i = 17) with rfl | rfl | rfl | rfl | rfl | rfl | rfl | rfl | rfl | rfl | rfl | rfl | rfl | rfl | rfl | rfl | rfl | rfl
                · intro k hk y hy hyt v w w' h hr
                  exact h
                · intro k hk y hy hyt v w w' h hr
                  exact h
                · intro k hk y hy hyt v w w' h hr
                  exact h
                · intro k hk y hy hyt v w w' h hr
                  exact h
                · intro k hk y hy hyt v w w' h hr
                  exact h
                · intro k hk y hy hyt v w w' h hr
                  exact h
                · intro k hk y hy hyt v w w' h hr
                  exact h
                · intro k hk y hy hyt v w w' h hr
                  exact h
                · intro k hk y hy hyt v w w' h hr
                  exact h
                · intro k hk y hy hyt v w w' h hr
                  exact h
                · intro k hk y hy hyt v w w' h hr
                  exact h
                · intro k hk y hy hyt v w w' h hr
                  exact h
                · intro k hk y hy hyt v w w' h hr
                  exact h
                · intro k hk y hy hyt v w w' h hr
                  exact h
                · intro k hk y hy hyt v w w' h hr
                  exact h
                · intro k hk y hy hyt v w w' h hr
                  by_cases hs15 : k = 15
                  · have hr0 := hr.1 hs15
                    subst hs15
                    exact absurd (hy.trans hyt) (ne_true_of_eq_false (by kernel_rfl))
                  by_cases hs17 : k = 17
                  · have hr0 := hr.2.1 hs17
                    subst hs17
                    exact absurd (hy.trans hyt) (ne_true_of_eq_false (by kernel_rfl))
                  have hr := hr.2.2 hs15 hs17
                  exact trivial
                · intro k hk y hy hyt v w w' h hr
                  exact h
                · intro k hk y hy hyt v w w' h hr
                  by_cases hs15 : k = 15
                  · have hr0 := hr.1 hs15
                    subst hs15
                    exact absurd (hy.trans hyt) (ne_true_of_eq_false (by kernel_rfl))
                  by_cases hs17 : k = 17
                  · have hr0 := hr.2.1 hs17
                    subst hs17
                    exact absurd (hy.trans hyt) (ne_true_of_eq_false (by kernel_rfl))
                  have hr := hr.2.2 hs15 hs17
                  exact trivial
              · intro i hi
                rcases (by omega : i = 0 ∨ i = 1 ∨ i = 2 ∨ i = 3 ∨ i = 4 ∨ i = 5 ∨ i = 6 ∨ i = 7 ∨ i = 8 ∨ i = 9 ∨ i = 10 ∨ i = 11 ∨ i = 12 ∨ i = 13 ∨ i = 14 ∨ i = 15 ∨ i = 16 ∨ i = 17) with rfl | rfl | rfl | rfl | rfl | rfl | rfl | rfl | rfl | rfl | rfl | rfl | rfl | rfl | rfl | rfl | rfl | rfl
                · -- 0: Op.move (Operand.tmp 0)
                  intro l hl vs W dn e1 e2 e3 hS hR hp
                  have f15 : dn 15 = false := e3 15 (by kernel_rfl)
                  have f17 : dn 17 = false := e3 17 (by kernel_rfl)
                  replace hS : (fun W => W.ownsRow base TM 7 (.slice (some ⟨g, 0, none⟩) n c) n ((if (dn 17) then ((T0.set ii (y1, y2, y3, y4, y5, y6, y7)).set jj (x1, x2, x3, x4, x5, x6, x7)) else if (dn 15) then T0.set ii (y1, y2, y3, y4, y5, y6, y7) else T0).flatMap encT)) W := hS
                  rw [f15, f17] at hS
                  have g15 : (dn 15 || ((0 : Nat) == 15)) = false := by rw [f15]; rfl
                  have g17 : (dn 17 || ((0 : Nat) == 17)) = false := by rw [f17]; rfl
                  refine OpGoal.imp (S1 := fun W => W.ownsRow base TM 7 (.slice (some ⟨g, 0, none⟩) n c) n ((if false then ((T0.set ii (y1, y2, y3, y4, y5, y6, y7)).set jj (x1, x2, x3, x4, x5, x6, x7)) else if false then T0.set ii (y1, y2, y3, y4, y5, y6, y7) else T0).flatMap encT)) (fun W' h => ?_) ?_
                  · show (fun W => W.ownsRow base TM 7 (.slice (some ⟨g, 0, none⟩) n c) n ((if (dn 17 || ((0 : Nat) == 17)) then ((T0.set ii (y1, y2, y3, y4, y5, y6, y7)).set jj (x1, x2, x3, x4, x5, x6, x7)) else if (dn 15 || ((0 : Nat) == 15)) then T0.set ii (y1, y2, y3, y4, y5, y6, y7) else T0).flatMap encT)) W'
                    rw [g15, g17]
                    exact h
                  clear g15 g17 e1 e2 e3
                  obtain rfl : l = [] := hl.symm.trans (by kernel_rfl)
                  clear hp hl
                  refine opgoal (_) (some 37) rfl rfl fun K hK => ?_
                  refine Runs.mk ?_
                  simp only [putAll]
                  go_simp
                  refine hK _ _ ?_ hS ⟨fun h => absurd h (by decide), fun h => absurd h (by decide), fun h15 h17 => ((fun w => Keep.refl _ w) W)⟩ _ rfl rfl
                  first | rfl | go_simp | simp
                · -- 1: Op.move (Operand.tmp 9)
                  intro l hl vs W dn e1 e2 e3 hS hR hp
                  have f15 : dn 15 = false := e3 15 (by kernel_rfl)
                  have f17 : dn 17 = false := e3 17 (by kernel_rfl)
                  replace hS : (fun W => W.ownsRow base TM 7 (.slice (some ⟨g, 0, none⟩) n c) n ((if (dn 17) then ((T0.set ii (y1, y2, y3, y4, y5, y6, y7)).set jj (x1, x2, x3, x4, x5, x6, x7)) else if (dn 15) then T0.set ii (y1, y2, y3, y4, y5, y6, y7) else T0).flatMap encT)) W := hS
                  rw [f15, f17] at hS
                  have g15 : (dn 15 || ((1 : Nat) == 15)) = false := by rw [f15]; rfl
                  have g17 : (dn 17 || ((1 : Nat) == 17)) = false := by rw [f17]; rfl
                  refine OpGoal.imp (S1 := fun W => W.ownsRow base TM 7 (.slice (some ⟨g, 0, none⟩) n c) n ((if false then ((T0.set ii (y1, y2, y3, y4, y5, y6, y7)).set jj (x1, x2, x3, x4, x5, x6, x7)) else if false then T0.set ii (y1, y2, y3, y4, y5, y6, y7) else T0).flatMap encT)) (fun W' h => ?_) ?_
                  · show (fun W => W.ownsRow base TM 7 (.slice (some ⟨g, 0, none⟩) n c) n ((if (dn 17 || ((1 : Nat) == 17)) then ((T0.set ii (y1, y2, y3, y4, y5, y6, y7)).set jj (x1, x2, x3, x4, x5, x6, x7)) else if (dn 15 || ((1 : Nat) == 15)) then T0.set ii (y1, y2, y3, y4, y5, y6, y7) else T0).flatMap encT)) W'
                    rw [g15, g17]
                    exact h
                  clear g15 g17 e1 e2 e3
                  obtain rfl : l = [] := hl.symm.trans (by kernel_rfl)
                  clear hp hl
                  refine opgoal (_) (some 38) rfl rfl fun K hK => ?_
                  refine Runs.mk ?_
                  simp only [putAll]
                  go_simp
                  refine hK _ _ ?_ hS ⟨fun h => absurd h (by decide), fun h => absurd h (by decide), fun h15 h17 => ((fun w => Keep.refl _ w) W)⟩ _ rfl rfl
                  first | rfl | go_simp | simp
                · -- 2: Op.move (Operand.tmp 0)
                  intro l hl vs W dn e1 e2 e3 hS hR hp
                  have f15 : dn 15 = dn 15 := rfl
                  have f17 : dn 17 = false := e3 17 (by kernel_rfl)
                  replace hS : (fun W => W.ownsRow base TM 7 (.slice (some ⟨g, 0, none⟩) n c) n ((if (dn 17) then ((T0.set ii (y1, y2, y3, y4, y5, y6, y7)).set jj (x1, x2, x3, x4, x5, x6, x7)) else if (dn 15) then T0.set ii (y1, y2, y3, y4, y5, y6, y7) else T0).flatMap encT)) W := hS
                  rw [f17] at hS
                  have g15 : (dn 15 || ((2 : Nat) == 15)) = dn 15 := Bool.or_false _
                  have g17 : (dn 17 || ((2 : Nat) == 17)) = false := by rw [f17]; rfl
                  refine OpGoal.imp (S1 := fun W => W.ownsRow base TM 7 (.slice (some ⟨g, 0, none⟩) n c) n ((if false then ((T0.set ii (y1, y2, y3, y4, y5, y6, y7)).set jj (x1, x2, x3, x4, x5, x6, x7)) else if (dn 15) then T0.set ii (y1, y2, y3, y4, y5, y6, y7) else T0).flatMap encT)) (fun W' h => ?_) ?_
                  · show (fun W => W.ownsRow base TM 7 (.slice (some ⟨g, 0, none⟩) n c) n ((if (dn 17 || ((2 : Nat) == 17)) then ((T0.set ii (y1, y2, y3, y4, y5, y6, y7)).set jj (x1, x2, x3, x4, x5, x6, x7)) else if (dn 15 || ((2 : Nat) == 15)) then T0.set ii (y1, y2, y3, y4, y5, y6, y7) else T0).flatMap encT)) W'
                    rw [g15, g17]
                    exact h
                  clear g15 g17 e1 e2 e3
                  obtain rfl : l = [] := hl.symm.trans (by kernel_rfl)
                  clear hp hl
                  refine opgoal (_) (some 39) rfl rfl fun K hK => ?_
                  refine Runs.mk ?_
                  simp only [putAll]
                  go_simp
                  refine hK _ _ ?_ hS ⟨fun h => absurd h (by decide), fun h => absurd h (by decide), fun h15 h17 => ((fun w => Keep.refl _ w) W)⟩ _ rfl rfl
                  first | rfl | go_simp | simp
                · -- 3: Op.move (Operand.tmp 9)
                  intro l hl vs W dn e1 e2 e3 hS hR hp
                  have f15 : dn 15 = dn 15 := rfl
                  have f17 : dn 17 = false := e3 17 (by kernel_rfl)
                  replace hS : (fun W => W.ownsRow base TM 7 (.slice (some ⟨g, 0, none⟩) n c) n ((if (dn 17) then ((T0.set ii (y1, y2, y3, y4, y5, y6, y7)).set jj (x1, x2, x3, x4, x5, x6, x7)) else if (dn 15) then T0.set ii (y1, y2, y3, y4, y5, y6, y7) else T0).flatMap encT)) W := hS
                  rw [f17] at hS
                  have g15 : (dn 15 || ((3 : Nat) == 15)) = dn 15 := Bool.or_false _
                  have g17 : (dn 17 || ((3 : Nat) == 17)) = false := by rw [f17]; rfl
                  refine OpGoal.imp (S1 := fun W => W.ownsRow base TM 7 (.slice (some ⟨g, 0, none⟩) n c) n ((if false then ((T0.set ii (y1, y2, y3, y4, y5, y6, y7)).set jj (x1, x2, x3, x4, x5, x6, x7)) else if (dn 15) then T0.set ii (y1, y2, y3, y4, y5, y6, y7) else T0).flatMap encT)) (fun W' h => ?_) ?_
                  · show (fun W => W.ownsRow base TM 7 (.slice (some ⟨g, 0, none⟩) n c) n ((if (dn 17 || ((3 : Nat) == 17)) then ((T0.set ii (y1, y2, y3, y4, y5, y6, y7)).set jj (x1, x2, x3, x4, x5, x6, x7)) else if (dn 15 || ((3 : Nat) == 15)) then T0.set ii (y1, y2, y3, y4, y5, y6, y7) else T0).flatMap encT)) W'
                    rw [g15, g17]
                    exact h
                  clear g15 g17 e1 e2 e3
                  obtain rfl : l = [] := hl.symm.trans (by kernel_rfl)
                  clear hp hl
                  refine opgoal (_) (some 40) rfl rfl fun K hK => ?_
                  refine Runs.mk ?_
                  simp only [putAll]
                  go_simp
                  refine hK _ _ ?_ hS ⟨fun h => absurd h (by decide), fun h => absurd h (by decide), fun h15 h17 => ((fun w => Keep.refl _ w) W)⟩ _ rfl rfl
                  first | rfl | go_simp | simp
                · -- 4: Op.binOp BinOp.sub 3 (Operand.tmp 40) (Operand.const (Value.int IntKind.i64 1)) 3
                  intro l hl vs W dn e1 e2 e3 hS hR hp
                  have f15 : dn 15 = dn 15 := rfl
                  have f17 : dn 17 = false := e3 17 (by kernel_rfl)
                  replace hS : (fun W => W.ownsRow base TM 7 (.slice (some ⟨g, 0, none⟩) n c) n ((if (dn 17) then ((T0.set ii (y1, y2, y3, y4, y5, y6, y7)).set jj (x1, x2, x3, x4, x5, x6, x7)) else if (dn 15) then T0.set ii (y1, y2, y3, y4, y5, y6, y7) else T0).flatMap encT)) W := hS
                  rw [f17] at hS
                  have g15 : (dn 15 || ((4 : Nat) == 15)) = dn 15 := Bool.or_false _
                  have g17 : (dn 17 || ((4 : Nat) == 17)) = false := by rw [f17]; rfl
                  refine OpGoal.imp (S1 := fun W => W.ownsRow base TM 7 (.slice (some ⟨g, 0, none⟩) n c) n ((if false then ((T0.set ii (y1, y2, y3, y4, y5, y6, y7)).set jj (x1, x2, x3, x4, x5, x6, x7)) else if (dn 15) then T0.set ii (y1, y2, y3, y4, y5, y6, y7) else T0).flatMap encT)) (fun W' h => ?_) ?_
                  · show (fun W => W.ownsRow base TM 7 (.slice (some ⟨g, 0, none⟩) n c) n ((if (dn 17 || ((4 : Nat) == 17)) then ((T0.set ii (y1, y2, y3, y4, y5, y6, y7)).set jj (x1, x2, x3, x4, x5, x6, x7)) else if (dn 15 || ((4 : Nat) == 15)) then T0.set ii (y1, y2, y3, y4, y5, y6, y7) else T0).flatMap encT)) W'
                    rw [g15, g17]
                    exact h
                  clear g15 g17 e1 e2 e3
                  obtain rfl : l = [(3, 40)] := hl.symm.trans (by kernel_rfl)
                  have p3 : vs 3 = _ := hp 3 (by decide) (by decide)
                  clear hp hl
                  refine opgoal (_) (some 41) rfl rfl fun K hK => ?_
                  have hw := HJJ.out
                  refine Runs.mk ?_
                  simp only [putAll]
                  go_simp
                  refine hK _ _ ?_ hS ⟨fun h => absurd h (by decide), fun h => absurd h (by decide), fun h15 h17 => ((fun w => Keep.refl _ w) W)⟩ _ rfl rfl
                  first | rfl | go_simp | simp
                · -- 5: Op.move (Operand.tmp 0)
                  intro l hl vs W dn e1 e2 e3 hS hR hp
                  have f15 : dn 15 = false := e3 15 (by kernel_rfl)
                  have f17 : dn 17 = false := e3 17 (by kernel_rfl)
                  replace hS : (fun W => W.ownsRow base TM 7 (.slice (some ⟨g, 0, none⟩) n c) n ((if (dn 17) then ((T0.set ii (y1, y2, y3, y4, y5, y6, y7)).set jj (x1, x2, x3, x4, x5, x6, x7)) else if (dn 15) then T0.set ii (y1, y2, y3, y4, y5, y6, y7) else T0).flatMap encT)) W := hS
                  rw [f15, f17] at hS
                  have g15 : (dn 15 || ((5 : Nat) == 15)) = false := by rw [f15]; rfl
                  have g17 : (dn 17 || ((5 : Nat) == 17)) = false := by rw [f17]; rfl
                  refine OpGoal.imp (S1 := fun W => W.ownsRow base TM 7 (.slice (some ⟨g, 0, none⟩) n c) n ((if false then ((T0.set ii (y1, y2, y3, y4, y5, y6, y7)).set jj (x1, x2, x3, x4, x5, x6, x7)) else if false then T0.set ii (y1, y2, y3, y4, y5, y6, y7) else T0).flatMap encT)) (fun W' h => ?_) ?_
                  · show (fun W => W.ownsRow base TM 7 (.slice (some ⟨g, 0, none⟩) n c) n ((if (dn 17 || ((5 : Nat) == 17)) then ((T0.set ii (y1, y2, y3, y4, y5, y6, y7)).set jj (x1, x2, x3, x4, x5, x6, x7)) else if (dn 15 || ((5 : Nat) == 15)) then T0.set ii (y1, y2, y3, y4, y5, y6, y7) else T0).flatMap encT)) W'
                    rw [g15, g17]
                    exact h
                  clear g15 g17 e1 e2 e3
                  obtain rfl : l = [] := hl.symm.trans (by kernel_rfl)
                  clear hp hl
                  refine opgoal (_) (some 42) rfl rfl fun K hK => ?_
                  refine Runs.mk ?_
                  simp only [putAll]
                  go_simp
                  refine hK _ _ ?_ hS ⟨fun h => absurd h (by decide), fun h => absurd h (by decide), fun h15 h17 => ((fun w => Keep.refl _ w) W)⟩ _ rfl rfl
                  first | rfl | go_simp | simp
                · -- 6: Op.move (Operand.tmp 9)
                  intro l hl vs W dn e1 e2 e3 hS hR hp
                  have f15 : dn 15 = false := e3 15 (by kernel_rfl)
                  have f17 : dn 17 = false := e3 17 (by kernel_rfl)
                  replace hS : (fun W => W.ownsRow base TM 7 (.slice (some ⟨g, 0, none⟩) n c) n ((if (dn 17) then ((T0.set ii (y1, y2, y3, y4, y5, y6, y7)).set jj (x1, x2, x3, x4, x5, x6, x7)) else if (dn 15) then T0.set ii (y1, y2, y3, y4, y5, y6, y7) else T0).flatMap encT)) W := hS
                  rw [f15, f17] at hS
                  have g15 : (dn 15 || ((6 : Nat) == 15)) = false := by rw [f15]; rfl
                  have g17 : (dn 17 || ((6 : Nat) == 17)) = false := by rw [f17]; rfl
                  refine OpGoal.imp (S1 := fun W => W.ownsRow base TM 7 (.slice (some ⟨g, 0, none⟩) n c) n ((if false then ((T0.set ii (y1, y2, y3, y4, y5, y6, y7)).set jj (x1, x2, x3, x4, x5, x6, x7)) else if false then T0.set ii (y1, y2, y3, y4, y5, y6, y7) else T0).flatMap encT)) (fun W' h => ?_) ?_
                  · show (fun W => W.ownsRow base TM 7 (.slice (some ⟨g, 0, none⟩) n c) n ((if (dn 17 || ((6 : Nat) == 17)) then ((T0.set ii (y1, y2, y3, y4, y5, y6, y7)).set jj (x1, x2, x3, x4, x5, x6, x7)) else if (dn 15 || ((6 : Nat) == 15)) then T0.set ii (y1, y2, y3, y4, y5, y6, y7) else T0).flatMap encT)) W'
                    rw [g15, g17]
                    exact h
                  clear g15 g17 e1 e2 e3
                  obtain rfl : l = [] := hl.symm.trans (by kernel_rfl)
                  clear hp hl
                  refine opgoal (_) (some 43) rfl rfl fun K hK => ?_
                  refine Runs.mk ?_
                  simp only [putAll]
                  go_simp
                  refine hK _ _ ?_ hS ⟨fun h => absurd h (by decide), fun h => absurd h (by decide), fun h15 h17 => ((fun w => Keep.refl _ w) W)⟩ _ rfl rfl
                  first | rfl | go_simp | simp
                · -- 7: Op.binOp BinOp.sub 3 (Operand.tmp 43) (Operand.const (Value.int IntKind.i64 1)) 3
                  intro l hl vs W dn e1 e2 e3 hS hR hp
                  have f15 : dn 15 = false := e3 15 (by kernel_rfl)
                  have f17 : dn 17 = false := e3 17 (by kernel_rfl)
                  replace hS : (fun W => W.ownsRow base TM 7 (.slice (some ⟨g, 0, none⟩) n c) n ((if (dn 17) then ((T0.set ii (y1, y2, y3, y4, y5, y6, y7)).set jj (x1, x2, x3, x4, x5, x6, x7)) else if (dn 15) then T0.set ii (y1, y2, y3, y4, y5, y6, y7) else T0).flatMap encT)) W := hS
                  rw [f15, f17] at hS
                  have g15 : (dn 15 || ((7 : Nat) == 15)) = false := by rw [f15]; rfl
                  have g17 : (dn 17 || ((7 : Nat) == 17)) = false := by rw [f17]; rfl
                  refine OpGoal.imp (S1 := fun W => W.ownsRow base TM 7 (.slice (some ⟨g, 0, none⟩) n c) n ((if false then ((T0.set ii (y1, y2, y3, y4, y5, y6, y7)).set jj (x1, x2, x3, x4, x5, x6, x7)) else if false then T0.set ii (y1, y2, y3, y4, y5, y6, y7) else T0).flatMap encT)) (fun W' h => ?_) ?_
                  · show (fun W => W.ownsRow base TM 7 (.slice (some ⟨g, 0, none⟩) n c) n ((if (dn 17 || ((7 : Nat) == 17)) then ((T0.set ii (y1, y2, y3, y4, y5, y6, y7)).set jj (x1, x2, x3, x4, x5, x6, x7)) else if (dn 15 || ((7 : Nat) == 15)) then T0.set ii (y1, y2, y3, y4, y5, y6, y7) else T0).flatMap encT)) W'
                    rw [g15, g17]
                    exact h
                  clear g15 g17 e1 e2 e3
                  obtain rfl : l = [(6, 43)] := hl.symm.trans (by kernel_rfl)
                  have p6 : vs 6 = _ := hp 6 (by decide) (by decide)
                  clear hp hl
                  refine opgoal (_) (some 44) rfl rfl fun K hK => ?_
                  have hw := HJJ.out
                  refine Runs.mk ?_
                  simp only [putAll]
                  go_simp
                  refine hK _ _ ?_ hS ⟨fun h => absurd h (by decide), fun h => absurd h (by decide), fun h15 h17 => ((fun w => Keep.refl _ w) W)⟩ _ rfl rfl
                  first | rfl | go_simp | simp
                · -- 8: Op.indexAddr 61 (Operand.tmp 42) (Operand.tmp 44)
                  intro l hl vs W dn e1 e2 e3 hS hR hp
                  have f15 : dn 15 = false := e3 15 (by kernel_rfl)
                  have f17 : dn 17 = false := e3 17 (by kernel_rfl)
                  replace hS : (fun W => W.ownsRow base TM 7 (.slice (some ⟨g, 0, none⟩) n c) n ((if (dn 17) then ((T0.set ii (y1, y2, y3, y4, y5, y6, y7)).set jj (x1, x2, x3, x4, x5, x6, x7)) else if (dn 15) then T0.set ii (y1, y2, y3, y4, y5, y6, y7) else T0).flatMap encT)) W := hS
                  rw [f15, f17] at hS
                  have g15 : (dn 15 || ((8 : Nat) == 15)) = false := by rw [f15]; rfl
                  have g17 : (dn 17 || ((8 : Nat) == 17)) = false := by rw [f17]; rfl
                  refine OpGoal.imp (S1 := fun W => W.ownsRow base TM 7 (.slice (some ⟨g, 0, none⟩) n c) n ((if false then ((T0.set ii (y1, y2, y3, y4, y5, y6, y7)).set jj (x1, x2, x3, x4, x5, x6, x7)) else if false then T0.set ii (y1, y2, y3, y4, y5, y6, y7) else T0).flatMap encT)) (fun W' h => ?_) ?_
                  · show (fun W => W.ownsRow base TM 7 (.slice (some ⟨g, 0, none⟩) n c) n ((if (dn 17 || ((8 : Nat) == 17)) then ((T0.set ii (y1, y2, y3, y4, y5, y6, y7)).set jj (x1, x2, x3, x4, x5, x6, x7)) else if (dn 15 || ((8 : Nat) == 15)) then T0.set ii (y1, y2, y3, y4, y5, y6, y7) else T0).flatMap encT)) W'
                    rw [g15, g17]
                    exact h
                  clear g15 g17 e1 e2 e3
                  obtain rfl : l = [(5, 42), (6, 43), (7, 44)] := hl.symm.trans (by kernel_rfl)
                  have p5 : vs 5 = _ := hp 5 (by decide) (by decide)
                  have p7 : vs 7 = _ := hp 7 (by decide) (by decide)
                  clear hp hl
                  refine opgoal (_) (some 45) rfl rfl fun K hK => ?_
                  refine Runs.mk ?_
                  simp only [putAll]
                  go_simp
                  refine hK _ _ ?_ hS ⟨fun h => absurd h (by decide), fun h => absurd h (by decide), fun h15 h17 => ((fun w => Keep.refl _ w) W)⟩ _ rfl rfl
                  first | rfl | go_simp | simp
                · -- 9: Op.load 66 (Operand.tmp 45)
                  intro l hl vs W dn e1 e2 e3 hS hR hp
                  have f15 : dn 15 = false := e3 15 (by kernel_rfl)
                  have f17 : dn 17 = false := e3 17 (by kernel_rfl)
                  replace hS : (fun W => W.ownsRow base TM 7 (.slice (some ⟨g, 0, none⟩) n c) n ((if (dn 17) then ((T0.set ii (y1, y2, y3, y4, y5, y6, y7)).set jj (x1, x2, x3, x4, x5, x6, x7)) else if (dn 15) then T0.set ii (y1, y2, y3, y4, y5, y6, y7) else T0).flatMap encT)) W := hS
                  rw [f15, f17] at hS
                  have g15 : (dn 15 || ((9 : Nat) == 15)) = false := by rw [f15]; rfl
                  have g17 : (dn 17 || ((9 : Nat) == 17)) = false := by rw [f17]; rfl
                  refine OpGoal.imp (S1 := fun W => W.ownsRow base TM 7 (.slice (some ⟨g, 0, none⟩) n c) n ((if false then ((T0.set ii (y1, y2, y3, y4, y5, y6, y7)).set jj (x1, x2, x3, x4, x5, x6, x7)) else if false then T0.set ii (y1, y2, y3, y4, y5, y6, y7) else T0).flatMap encT)) (fun W' h => ?_) ?_
                  · show (fun W => W.ownsRow base TM 7 (.slice (some ⟨g, 0, none⟩) n c) n ((if (dn 17 || ((9 : Nat) == 17)) then ((T0.set ii (y1, y2, y3, y4, y5, y6, y7)).set jj (x1, x2, x3, x4, x5, x6, x7)) else if (dn 15 || ((9 : Nat) == 15)) then T0.set ii (y1, y2, y3, y4, y5, y6, y7) else T0).flatMap encT)) W'
                    rw [g15, g17]
                    exact h
                  clear g15 g17 e1 e2 e3
                  obtain rfl : l = [(5, 42), (6, 43), (7, 44), (8, 45)] := hl.symm.trans (by kernel_rfl)
                  have p8 : vs 8 = _ := hp 8 (by decide) (by decide)
                  clear hp hl
                  refine opgoal (_) (some 46) rfl rfl fun K hK => ?_
                  obtain ⟨e0, e1, e2, e3, e4, e5, e6⟩ := HCJ.out W hS
                  refine Runs.mk ?_
                  simp only [putAll]
                  go_simp
                  refine hK _ _ ?_ hS ⟨fun h => absurd h (by decide), fun h => absurd h (by decide), fun h15 h17 => ((fun w => Keep.refl _ w) W)⟩ _ rfl rfl
                  first | rfl | go_simp | simp
                · -- 10: Op.move (Operand.tmp 0)
                  intro l hl vs W dn e1 e2 e3 hS hR hp
                  have f15 : dn 15 = false := e3 15 (by kernel_rfl)
                  have f17 : dn 17 = false := e3 17 (by kernel_rfl)
                  replace hS : (fun W => W.ownsRow base TM 7 (.slice (some ⟨g, 0, none⟩) n c) n ((if (dn 17) then ((T0.set ii (y1, y2, y3, y4, y5, y6, y7)).set jj (x1, x2, x3, x4, x5, x6, x7)) else if (dn 15) then T0.set ii (y1, y2, y3, y4, y5, y6, y7) else T0).flatMap encT)) W := hS
                  rw [f15, f17] at hS
                  have g15 : (dn 15 || ((10 : Nat) == 15)) = false := by rw [f15]; rfl
                  have g17 : (dn 17 || ((10 : Nat) == 17)) = false := by rw [f17]; rfl
                  refine OpGoal.imp (S1 := fun W => W.ownsRow base TM 7 (.slice (some ⟨g, 0, none⟩) n c) n ((if false then ((T0.set ii (y1, y2, y3, y4, y5, y6, y7)).set jj (x1, x2, x3, x4, x5, x6, x7)) else if false then T0.set ii (y1, y2, y3, y4, y5, y6, y7) else T0).flatMap encT)) (fun W' h => ?_) ?_
                  · show (fun W => W.ownsRow base TM 7 (.slice (some ⟨g, 0, none⟩) n c) n ((if (dn 17 || ((10 : Nat) == 17)) then ((T0.set ii (y1, y2, y3, y4, y5, y6, y7)).set jj (x1, x2, x3, x4, x5, x6, x7)) else if (dn 15 || ((10 : Nat) == 15)) then T0.set ii (y1, y2, y3, y4, y5, y6, y7) else T0).flatMap encT)) W'
                    rw [g15, g17]
                    exact h
                  clear g15 g17 e1 e2 e3
                  obtain rfl : l = [] := hl.symm.trans (by kernel_rfl)
                  clear hp hl
                  refine opgoal (_) (some 47) rfl rfl fun K hK => ?_
                  refine Runs.mk ?_
                  simp only [putAll]
                  go_simp
                  refine hK _ _ ?_ hS ⟨fun h => absurd h (by decide), fun h => absurd h (by decide), fun h15 h17 => ((fun w => Keep.refl _ w) W)⟩ _ rfl rfl
                  first | rfl | go_simp | simp
                · -- 11: Op.move (Operand.tmp 9)
                  intro l hl vs W dn e1 e2 e3 hS hR hp
                  have f15 : dn 15 = false := e3 15 (by kernel_rfl)
                  have f17 : dn 17 = false := e3 17 (by kernel_rfl)
                  replace hS : (fun W => W.ownsRow base TM 7 (.slice (some ⟨g, 0, none⟩) n c) n ((if (dn 17) then ((T0.set ii (y1, y2, y3, y4, y5, y6, y7)).set jj (x1, x2, x3, x4, x5, x6, x7)) else if (dn 15) then T0.set ii (y1, y2, y3, y4, y5, y6, y7) else T0).flatMap encT)) W := hS
                  rw [f15, f17] at hS
                  have g15 : (dn 15 || ((11 : Nat) == 15)) = false := by rw [f15]; rfl
                  have g17 : (dn 17 || ((11 : Nat) == 17)) = false := by rw [f17]; rfl
                  refine OpGoal.imp (S1 := fun W => W.ownsRow base TM 7 (.slice (some ⟨g, 0, none⟩) n c) n ((if false then ((T0.set ii (y1, y2, y3, y4, y5, y6, y7)).set jj (x1, x2, x3, x4, x5, x6, x7)) else if false then T0.set ii (y1, y2, y3, y4, y5, y6, y7) else T0).flatMap encT)) (fun W' h => ?_) ?_
                  · show (fun W => W.ownsRow base TM 7 (.slice (some ⟨g, 0, none⟩) n c) n ((if (dn 17 || ((11 : Nat) == 17)) then ((T0.set ii (y1, y2, y3, y4, y5, y6, y7)).set jj (x1, x2, x3, x4, x5, x6, x7)) else if (dn 15 || ((11 : Nat) == 15)) then T0.set ii (y1, y2, y3, y4, y5, y6, y7) else T0).flatMap encT)) W'
                    rw [g15, g17]
                    exact h
                  clear g15 g17 e1 e2 e3
                  obtain rfl : l = [] := hl.symm.trans (by kernel_rfl)
                  clear hp hl
                  refine opgoal (_) (some 48) rfl rfl fun K hK => ?_
                  refine Runs.mk ?_
                  simp only [putAll]
                  go_simp
                  refine hK _ _ ?_ hS ⟨fun h => absurd h (by decide), fun h => absurd h (by decide), fun h15 h17 => ((fun w => Keep.refl _ w) W)⟩ _ rfl rfl
                  first | rfl | go_simp | simp
                · -- 12: Op.indexAddr 61 (Operand.tmp 47) (Operand.tmp 48)
                  intro l hl vs W dn e1 e2 e3 hS hR hp
                  have f15 : dn 15 = false := e3 15 (by kernel_rfl)
                  have f17 : dn 17 = false := e3 17 (by kernel_rfl)
                  replace hS : (fun W => W.ownsRow base TM 7 (.slice (some ⟨g, 0, none⟩) n c) n ((if (dn 17) then ((T0.set ii (y1, y2, y3, y4, y5, y6, y7)).set jj (x1, x2, x3, x4, x5, x6, x7)) else if (dn 15) then T0.set ii (y1, y2, y3, y4, y5, y6, y7) else T0).flatMap encT)) W := hS
                  rw [f15, f17] at hS
                  have g15 : (dn 15 || ((12 : Nat) == 15)) = false := by rw [f15]; rfl
                  have g17 : (dn 17 || ((12 : Nat) == 17)) = false := by rw [f17]; rfl
                  refine OpGoal.imp (S1 := fun W => W.ownsRow base TM 7 (.slice (some ⟨g, 0, none⟩) n c) n ((if false then ((T0.set ii (y1, y2, y3, y4, y5, y6, y7)).set jj (x1, x2, x3, x4, x5, x6, x7)) else if false then T0.set ii (y1, y2, y3, y4, y5, y6, y7) else T0).flatMap encT)) (fun W' h => ?_) ?_
                  · show (fun W => W.ownsRow base TM 7 (.slice (some ⟨g, 0, none⟩) n c) n ((if (dn 17 || ((12 : Nat) == 17)) then ((T0.set ii (y1, y2, y3, y4, y5, y6, y7)).set jj (x1, x2, x3, x4, x5, x6, x7)) else if (dn 15 || ((12 : Nat) == 15)) then T0.set ii (y1, y2, y3, y4, y5, y6, y7) else T0).flatMap encT)) W'
                    rw [g15, g17]
                    exact h
                  clear g15 g17 e1 e2 e3
                  obtain rfl : l = [(10, 47), (11, 48)] := hl.symm.trans (by kernel_rfl)
                  have p10 : vs 10 = _ := hp 10 (by decide) (by decide)
                  have p11 : vs 11 = _ := hp 11 (by decide) (by decide)
                  clear hp hl
                  refine opgoal (_) (some 49) rfl rfl fun K hK => ?_
                  refine Runs.mk ?_
                  simp only [putAll]
                  go_simp
                  refine hK _ _ ?_ hS ⟨fun h => absurd h (by decide), fun h => absurd h (by decide), fun h15 h17 => ((fun w => Keep.refl _ w) W)⟩ _ rfl rfl
                  first | rfl | go_simp | simp
                · -- 13: Op.load 66 (Operand.tmp 49)
                  intro l hl vs W dn e1 e2 e3 hS hR hp
                  have f15 : dn 15 = false := e3 15 (by kernel_rfl)
                  have f17 : dn 17 = false := e3 17 (by kernel_rfl)
                  replace hS : (fun W => W.ownsRow base TM 7 (.slice (some ⟨g, 0, none⟩) n c) n ((if (dn 17) then ((T0.set ii (y1, y2, y3, y4, y5, y6, y7)).set jj (x1, x2, x3, x4, x5, x6, x7)) else if (dn 15) then T0.set ii (y1, y2, y3, y4, y5, y6, y7) else T0).flatMap encT)) W := hS
                  rw [f15, f17] at hS
                  have g15 : (dn 15 || ((13 : Nat) == 15)) = false := by rw [f15]; rfl
                  have g17 : (dn 17 || ((13 : Nat) == 17)) = false := by rw [f17]; rfl
                  refine OpGoal.imp (S1 := fun W => W.ownsRow base TM 7 (.slice (some ⟨g, 0, none⟩) n c) n ((if false then ((T0.set ii (y1, y2, y3, y4, y5, y6, y7)).set jj (x1, x2, x3, x4, x5, x6, x7)) else if false then T0.set ii (y1, y2, y3, y4, y5, y6, y7) else T0).flatMap encT)) (fun W' h => ?_) ?_
                  · show (fun W => W.ownsRow base TM 7 (.slice (some ⟨g, 0, none⟩) n c) n ((if (dn 17 || ((13 : Nat) == 17)) then ((T0.set ii (y1, y2, y3, y4, y5, y6, y7)).set jj (x1, x2, x3, x4, x5, x6, x7)) else if (dn 15 || ((13 : Nat) == 15)) then T0.set ii (y1, y2, y3, y4, y5, y6, y7) else T0).flatMap encT)) W'
                    rw [g15, g17]
                    exact h
                  clear g15 g17 e1 e2 e3
                  obtain rfl : l = [(10, 47), (11, 48), (12, 49)] := hl.symm.trans (by kernel_rfl)
                  have p12 : vs 12 = _ := hp 12 (by decide) (by decide)
                  clear hp hl
                  refine opgoal (_) (some 50) rfl rfl fun K hK => ?_
                  obtain ⟨e0, e1, e2, e3, e4, e5, e6⟩ := HCI.out W hS
                  refine Runs.mk ?_
                  simp only [putAll]
                  go_simp
                  refine hK _ _ ?_ hS ⟨fun h => absurd h (by decide), fun h => absurd h (by decide), fun h15 h17 => ((fun w => Keep.refl _ w) W)⟩ _ rfl rfl
                  first | rfl | go_simp | simp
                · -- 14: Op.indexAddr 61 (Operand.tmp 37) (Operand.tmp 38)
                  intro l hl vs W dn e1 e2 e3 hS hR hp
                  have f15 : dn 15 = false := e3 15 (by kernel_rfl)
                  have f17 : dn 17 = false := e3 17 (by kernel_rfl)
                  replace hS : (fun W => W.ownsRow base TM 7 (.slice (some ⟨g, 0, none⟩) n c) n ((if (dn 17) then ((T0.set ii (y1, y2, y3, y4, y5, y6, y7)).set jj (x1, x2, x3, x4, x5, x6, x7)) else if (dn 15) then T0.set ii (y1, y2, y3, y4, y5, y6, y7) else T0).flatMap encT)) W := hS
                  rw [f15, f17] at hS
                  have g15 : (dn 15 || ((14 : Nat) == 15)) = false := by rw [f15]; rfl
                  have g17 : (dn 17 || ((14 : Nat) == 17)) = false := by rw [f17]; rfl
                  refine OpGoal.imp (S1 := fun W => W.ownsRow base TM 7 (.slice (some ⟨g, 0, none⟩) n c) n ((if false then ((T0.set ii (y1, y2, y3, y4, y5, y6, y7)).set jj (x1, x2, x3, x4, x5, x6, x7)) else if false then T0.set ii (y1, y2, y3, y4, y5, y6, y7) else T0).flatMap encT)) (fun W' h => ?_) ?_
                  · show (fun W => W.ownsRow base TM 7 (.slice (some ⟨g, 0, none⟩) n c) n ((if (dn 17 || ((14 : Nat) == 17)) then ((T0.set ii (y1, y2, y3, y4, y5, y6, y7)).set jj (x1, x2, x3, x4, x5, x6, x7)) else if (dn 15 || ((14 : Nat) == 15)) then T0.set ii (y1, y2, y3, y4, y5, y6, y7) else T0).flatMap encT)) W'
                    rw [g15, g17]
                    exact h
                  clear g15 g17 e1 e2 e3
                  obtain rfl : l = [(0, 37), (1, 38), (5, 42), (6, 43), (7, 44), (8, 45), (9, 46), (10, 47), (11, 48), (12, 49), (13, 50)] := hl.symm.trans (by kernel_rfl)
                  have p0 : vs 0 = _ := hp 0 (by decide) (by decide)
                  have p1 : vs 1 = _ := hp 1 (by decide) (by decide)
                  clear hp hl
                  refine opgoal (_) (some 51) rfl rfl fun K hK => ?_
                  refine Runs.mk ?_
                  simp only [putAll]
                  go_simp
                  refine hK _ _ ?_ hS ⟨fun h => absurd h (by decide), fun h => absurd h (by decide), fun h15 h17 => ((fun w => Keep.refl _ w) W)⟩ _ rfl rfl
                  first | rfl | go_simp | simp
                · -- 15: Op.store 66 (Operand.tmp 51) (Operand.tmp 46)
                  intro l hl vs W dn e1 e2 e3 hS hR hp
                  have f15 : dn 15 = false := e1
                  have f17 : dn 17 = false := e3 17 (by kernel_rfl)
                  replace hS : (fun W => W.ownsRow base TM 7 (.slice (some ⟨g, 0, none⟩) n c) n ((if (dn 17) then ((T0.set ii (y1, y2, y3, y4, y5, y6, y7)).set jj (x1, x2, x3, x4, x5, x6, x7)) else if (dn 15) then T0.set ii (y1, y2, y3, y4, y5, y6, y7) else T0).flatMap encT)) W := hS
                  rw [f15, f17] at hS
                  have g15 : (dn 15 || ((15 : Nat) == 15)) = true := by rw [f15]; rfl
                  have g17 : (dn 17 || ((15 : Nat) == 17)) = false := by rw [f17]; rfl
                  refine OpGoal.imp (S1 := fun W => W.ownsRow base TM 7 (.slice (some ⟨g, 0, none⟩) n c) n ((if false then ((T0.set ii (y1, y2, y3, y4, y5, y6, y7)).set jj (x1, x2, x3, x4, x5, x6, x7)) else if true then T0.set ii (y1, y2, y3, y4, y5, y6, y7) else T0).flatMap encT)) (fun W' h => ?_) ?_
                  · show (fun W => W.ownsRow base TM 7 (.slice (some ⟨g, 0, none⟩) n c) n ((if (dn 17 || ((15 : Nat) == 17)) then ((T0.set ii (y1, y2, y3, y4, y5, y6, y7)).set jj (x1, x2, x3, x4, x5, x6, x7)) else if (dn 15 || ((15 : Nat) == 15)) then T0.set ii (y1, y2, y3, y4, y5, y6, y7) else T0).flatMap encT)) W'
                    rw [g15, g17]
                    exact h
                  clear g15 g17 e1 e2 e3
                  obtain rfl : l = [(0, 37), (1, 38), (5, 42), (6, 43), (7, 44), (8, 45), (9, 46), (10, 47), (11, 48), (12, 49), (13, 50), (14, 51)] := hl.symm.trans (by kernel_rfl)
                  have p9 : vs 9 = _ := hp 9 (by decide) (by decide)
                  have p14 : vs 14 = _ := hp 14 (by decide) (by decide)
                  clear hp hl
                  refine opgoal ({ dst := none, op := Op.store 66 (Operand.tmp 51) (Operand.tmp 46), type := 0, pos := "zsortanyfunc.go:13", after := #[{ on := 14, ground := Ground.data }, { on := 9, ground := Ground.data }, { on := 0, ground := Ground.phase }, { on := 1, ground := Ground.phase }, { on := 2, ground := Ground.textOnly Departure.lateStores }, { on := 3, ground := Ground.textOnly Departure.lateStores }, { on := 4, ground := Ground.textOnly Departure.lateStores }, { on := 5, ground := Ground.phase }, { on := 6, ground := Ground.phase }, { on := 7, ground := Ground.phase }, { on := 8, ground := Ground.phase }, { on := 9, ground := Ground.phase }, { on := 10, ground := Ground.textOnly Departure.lateStores }, { on := 11, ground := Ground.textOnly Departure.lateStores }, { on := 12, ground := Ground.textOnly Departure.lateStoresUnsure }, { on := 13, ground := Ground.phase }], guard := none }) (none) rfl rfl fun K hK => ?_
                  obtain ⟨cur, hcur, hcs, hput⟩ := own_setT hS HL0.out hii (y1, y2, y3, y4, y5, y6, y7)
                  refine runs_store_blk (wanted_none rfl) TM (.tmp 51) (.tmp 46) rfl g (ii * 7) (eval_putAll (j := 14) (by simp) (by decide) (by intro k hk; simpa using hk) p14) TM cur (.agg #[.int .i64 y1, .int .i64 y2, .int .i64 y3, .int .i64 y4, .int .i64 y5, .int .i64 y6, .int .i64 y7]) (eval_putAll (j := 9) (by simp) (by decide) (by intro k hk; simpa using hk) p9) hcur (by kernel_rfl) hcs (by simp [Value.cells, Value.oneCell']) _ rfl ?_
                  intro w5 hg5 hu5
                  have hkk := keep_upd hu5
                  exact hK undef _ trivial (hput w5 hg5) ⟨(fun _ => hkk), (fun h => absurd h (by decide)), fun h1 h2 => absurd rfl h1⟩ _ put_dfs rfl
                · -- 16: Op.indexAddr 61 (Operand.tmp 39) (Operand.tmp 41)
                  intro l hl vs W dn e1 e2 e3 hS hR hp
                  have f15 : dn 15 = true := e2 15 (by kernel_rfl)
                  have f17 : dn 17 = false := e3 17 (by kernel_rfl)
                  replace hS : (fun W => W.ownsRow base TM 7 (.slice (some ⟨g, 0, none⟩) n c) n ((if (dn 17) then ((T0.set ii (y1, y2, y3, y4, y5, y6, y7)).set jj (x1, x2, x3, x4, x5, x6, x7)) else if (dn 15) then T0.set ii (y1, y2, y3, y4, y5, y6, y7) else T0).flatMap encT)) W := hS
                  rw [f15, f17] at hS
                  have g15 : (dn 15 || ((16 : Nat) == 15)) = true := by rw [f15]; rfl
                  have g17 : (dn 17 || ((16 : Nat) == 17)) = false := by rw [f17]; rfl
                  refine OpGoal.imp (S1 := fun W => W.ownsRow base TM 7 (.slice (some ⟨g, 0, none⟩) n c) n ((if false then ((T0.set ii (y1, y2, y3, y4, y5, y6, y7)).set jj (x1, x2, x3, x4, x5, x6, x7)) else if true then T0.set ii (y1, y2, y3, y4, y5, y6, y7) else T0).flatMap encT)) (fun W' h => ?_) ?_
                  · show (fun W => W.ownsRow base TM 7 (.slice (some ⟨g, 0, none⟩) n c) n ((if (dn 17 || ((16 : Nat) == 17)) then ((T0.set ii (y1, y2, y3, y4, y5, y6, y7)).set jj (x1, x2, x3, x4, x5, x6, x7)) else if (dn 15 || ((16 : Nat) == 15)) then T0.set ii (y1, y2, y3, y4, y5, y6, y7) else T0).flatMap encT)) W'
                    rw [g15, g17]
                    exact h
                  clear g15 g17 e1 e2 e3
                  obtain rfl : l = [(0, 37), (1, 38), (2, 39), (3, 40), (4, 41), (5, 42), (6, 43), (7, 44), (8, 45), (9, 46), (10, 47), (11, 48), (12, 49), (13, 50), (14, 51)] := hl.symm.trans (by kernel_rfl)
                  have p2 : vs 2 = _ := hp 2 (by decide) (by decide)
                  have p4 : vs 4 = _ := hp 4 (by decide) (by decide)
                  clear hp hl
                  refine opgoal (_) (some 52) rfl rfl fun K hK => ?_
                  refine Runs.mk ?_
                  simp only [putAll]
                  go_simp
                  refine hK _ _ ?_ hS ⟨fun h => absurd h (by decide), fun h => absurd h (by decide), fun h15 h17 => ((fun w => Keep.refl _ w) W)⟩ _ rfl rfl
                  first | rfl | go_simp | simp
                · -- 17: Op.store 66 (Operand.tmp 52) (Operand.tmp 50)
                  intro l hl vs W dn e1 e2 e3 hS hR hp
                  have f15 : dn 15 = true := e2 15 (by kernel_rfl)
                  have f17 : dn 17 = false := e1
                  replace hS : (fun W => W.ownsRow base TM 7 (.slice (some ⟨g, 0, none⟩) n c) n ((if (dn 17) then ((T0.set ii (y1, y2, y3, y4, y5, y6, y7)).set jj (x1, x2, x3, x4, x5, x6, x7)) else if (dn 15) then T0.set ii (y1, y2, y3, y4, y5, y6, y7) else T0).flatMap encT)) W := hS
                  rw [f15, f17] at hS
                  have g15 : (dn 15 || ((17 : Nat) == 15)) = true := by rw [f15]; rfl
                  have g17 : (dn 17 || ((17 : Nat) == 17)) = true := by rw [f17]; rfl
                  refine OpGoal.imp (S1 := fun W => W.ownsRow base TM 7 (.slice (some ⟨g, 0, none⟩) n c) n ((if true then ((T0.set ii (y1, y2, y3, y4, y5, y6, y7)).set jj (x1, x2, x3, x4, x5, x6, x7)) else if true then T0.set ii (y1, y2, y3, y4, y5, y6, y7) else T0).flatMap encT)) (fun W' h => ?_) ?_
                  · show (fun W => W.ownsRow base TM 7 (.slice (some ⟨g, 0, none⟩) n c) n ((if (dn 17 || ((17 : Nat) == 17)) then ((T0.set ii (y1, y2, y3, y4, y5, y6, y7)).set jj (x1, x2, x3, x4, x5, x6, x7)) else if (dn 15 || ((17 : Nat) == 15)) then T0.set ii (y1, y2, y3, y4, y5, y6, y7) else T0).flatMap encT)) W'
                    rw [g15, g17]
                    exact h
                  clear g15 g17 e1 e2 e3
                  obtain rfl : l = [(0, 37), (1, 38), (2, 39), (3, 40), (4, 41), (5, 42), (6, 43), (7, 44), (8, 45), (9, 46), (10, 47), (11, 48), (12, 49), (13, 50), (14, 51), (16, 52)] := hl.symm.trans (by kernel_rfl)
                  have p13 : vs 13 = _ := hp 13 (by decide) (by decide)
                  have p16 : vs 16 = _ := hp 16 (by decide) (by decide)
                  clear hp hl
                  refine opgoal ({ dst := none, op := Op.store 66 (Operand.tmp 52) (Operand.tmp 50), type := 0, pos := "zsortanyfunc.go:13", after := #[{ on := 16, ground := Ground.data }, { on := 13, ground := Ground.data }, { on := 15, ground := Ground.chain }, { on := 0, ground := Ground.phase }, { on := 1, ground := Ground.phase }, { on := 2, ground := Ground.phase }, { on := 3, ground := Ground.phase }, { on := 4, ground := Ground.phase }, { on := 5, ground := Ground.phase }, { on := 6, ground := Ground.phase }, { on := 7, ground := Ground.phase }, { on := 8, ground := Ground.phase }, { on := 9, ground := Ground.phase }, { on := 10, ground := Ground.phase }, { on := 11, ground := Ground.phase }, { on := 12, ground := Ground.phase }, { on := 13, ground := Ground.phase }, { on := 14, ground := Ground.phase }, { on := 15, ground := Ground.phase }], guard := none }) (none) rfl rfl fun K hK => ?_
                  obtain ⟨cur, hcur, hcs, hput⟩ := own_setT hS HL1.out hjj (x1, x2, x3, x4, x5, x6, x7)
                  refine runs_store_blk (wanted_none rfl) TM (.tmp 52) (.tmp 50) rfl g (jj * 7) (eval_putAll (j := 16) (by simp) (by decide) (by intro k hk; simpa using hk) p16) TM cur (.agg #[.int .i64 x1, .int .i64 x2, .int .i64 x3, .int .i64 x4, .int .i64 x5, .int .i64 x6, .int .i64 x7]) (eval_putAll (j := 13) (by simp) (by decide) (by intro k hk; simpa using hk) p13) hcur (by kernel_rfl) hcs (by simp [Value.cells, Value.oneCell']) _ rfl ?_
                  intro w5 hg5 hu5
                  have hkk := keep_upd hu5
                  exact hK undef _ trivial (hput w5 hg5) ⟨(fun h => absurd h (by decide)), (fun _ => hkk), fun h1 h2 => absurd rfl h2⟩ _ put_dfs rfl
              · intro l hl vs W dn hd hS hR hp
                replace hS : (fun W => W.ownsRow base TM 7 (.slice (some ⟨g, 0, none⟩) n c) n ((if (dn 17) then ((T0.set ii (y1, y2, y3, y4, y5, y6, y7)).set jj (x1, x2, x3, x4, x5, x6, x7)) else if (dn 15) then T0.set ii (y1, y2, y3, y4, y5, y6, y7) else T0).flatMap encT)) W := hS
                rw [hd 15 (by decide), hd 17 (by decide)] at hS
                obtain rfl : l = [(0, 37), (1, 38), (2, 39), (3, 40), (4, 41), (5, 42), (6, 43), (7, 44), (8, 45), (9, 46), (10, 47), (11, 48), (12, 49), (13, 50), (14, 51), (16, 52)] := hl.symm.trans (by kernel_rfl)
                have p0 : vs 0 = _ := hp 0 (by decide) (by decide)
                have p1 : vs 1 = _ := hp 1 (by decide) (by decide)
                have p2 : vs 2 = _ := hp 2 (by decide) (by decide)
                have p3 : vs 3 = _ := hp 3 (by decide) (by decide)
                have p4 : vs 4 = _ := hp 4 (by decide) (by decide)
                have p5 : vs 5 = _ := hp 5 (by decide) (by decide)
                have p6 : vs 6 = _ := hp 6 (by decide) (by decide)
                have p7 : vs 7 = _ := hp 7 (by decide) (by decide)
                have p8 : vs 8 = _ := hp 8 (by decide) (by decide)
                have p9 : vs 9 = _ := hp 9 (by decide) (by decide)
                have p10 : vs 10 = _ := hp 10 (by decide) (by decide)
                have p11 : vs 11 = _ := hp 11 (by decide) (by decide)
                have p12 : vs 12 = _ := hp 12 (by decide) (by decide)
                have p13 : vs 13 = _ := hp 13 (by decide) (by decide)
                have p14 : vs 14 = _ := hp 14 (by decide) (by decide)
                have p16 : vs 16 = _ := hp 16 (by decide) (by decide)
                clear hp hl
                simp only [putAll_mk, setAll, List.setIfInBounds_toArray, List.set_cons_succ, List.set_cons_zero, p0, p1, p2, p3, p4, p5, p6, p7, p8, p9, p10, p11, p12, p13, p14, p16]
                replace hS : W.ownsRow base TM 7 (.slice (some ⟨g, 0, none⟩) n c) n (((T0.set ii (y1, y2, y3, y4, y5, y6, y7)).set jj (x1, x2, x3, x4, x5, x6, x7)).flatMap encT) := hS
                have HS := Lib.hid hS
                have HR := Lib.hid hR
                clear hS hR hS0
                go_wp2_with fail
                go_roundg jj
                case measure => omega
                case rel => exact ⟨jj, _, rfl, by rw [HJE.out], by omega, Lib.hid ⟨⟨HS.out, HW2.out.trans ((Keep.refl [g] W2).drew.trans HR.out)⟩, HN.out⟩⟩
            | false =>
              have HN := Lib.hid (HFALSE.out rfl)
              go_wp2_with fail
              go_roundw
              case rel => exact ⟨k + 1, by omega, by rw [← HE1.out]; go_num, Lib.hid (by rw [HR.out, ← HN.out]; exact HS8.out)⟩
              case measure => have := HI0.out; simp [intOf]; omega
        · have d2 : decide ((a0 : Int) < (ii : Int)) = false := by simp; omega
          have d2n : decide (a0 < ii) = false := by simp; omega
          have HN : Hid (T0 = R) := Lib.hid (by
            have hsk := HJ.out.2
            cases ii with
            | zero => exact hsk
            | succ jj => rw [sink, if_neg (fun h => hgt h.1)] at hsk; exact hsk)
          clear hgt d1 d1n
          go_wp2_with fail
          go_quiet (fail)
          go_wp2_with fail
          go_roundw
          case rel => exact ⟨k + 1, by omega, by rw [← HE1.out]; go_num, Lib.hid (by rw [HR.out, ← HN.out]; exact HJ.out.1.below (below_drewN _ _))⟩
          case measure => have := HI0.out; simp [intOf]; omega
    · obtain rfl : k = r := by omega
      have d1 : decide ((a0 : Int) + 1 + (k : Int) < (b0 : Int)) = false := by simp; omega
      clear hrr
      go_wp2_with fail
      go_end0
      exact ⟨rfl, HI.out⟩
end Go.Proofs.Ytbifmdepkbgnjaa.Wh

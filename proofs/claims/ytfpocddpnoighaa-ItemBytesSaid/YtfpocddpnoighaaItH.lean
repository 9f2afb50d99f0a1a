/- item: the document's RightItems; nodes. -/
import Derived.Test.YtfpocddpnoighaaItG
namespace Go.Proofs.Ytfpocddpnoighaa.It
open Go.RowKit Go.Proofs.Ytfpocddpnoighaa.L Go.Proofs.Ytfpocddpnoighaa.O Go.Proofs.Ytfpocddpnoighaa.A Go.Proofs.Ytfpocddpnoighaa.R Go.Proofs.Ytfpocddpnoighaa.S Go.Proofs.Ytfpocddpnoighaa.T Go.Proofs.Ytfpocddpnoighaa.E Go.Proofs.Ytfpocddpnoighaa.Wr Go.Proofs.Ytfpocddpnoighaa.F
set_option linter.unusedVariables false
set_option linter.unusedSimpArgs false

theorem itemR_iff (x : Im) : itemR x = true ↔ (0 ≤ x.c ∧ x.c ≤ 15 ∧ 0 ≤ x.v ∧ x.v ≤ 1099511627775 ∧ (x.w = true ∨ x.n = 0)) := by
  unfold itemR inB outN
  simp
  constructor
  · rintro ⟨⟨h1, h2⟩, ⟨h3, h4⟩, h5⟩; exact ⟨by omega, by omega, by omega, by omega, h5⟩
  · rintro ⟨h1, h2, h3, h4, h5⟩; exact ⟨⟨by omega, by omega⟩, ⟨by omega, by omega⟩, h5⟩
set_option maxHeartbeats 8000000 in
set_option maxRecDepth 100000 in
theorem rightitems_ref (A : Option Addr) (n ca : Nat) (l : List Im) (w : World) (h : Ims w A n l) (q : Bool) (hq' : itemsR l = q) : Calls Try.prog 37 #[.slice A n ca] w fun e w' => e = .returned (.bool q) ∧ Below w.heap.size w w' := by
  have hn9 := h.rd.2.1
  have H := Lib.hid h
  have HN := Lib.hid h.len
  have hq := Lib.hid hq'
  clear h hq'
  go_enter Try.func37, Try.ntmps37
  go_wp2
  go_loopw [3] (fun i wr => ∃ k : Nat, k ≤ n ∧ i = .int .i64 k ∧ Below w.heap.size w wr ∧ Hid (∀ j, j < k → okAt l j = true)) (fun i _ => n - (intOf i).toNat)
  case atStart => exact ⟨0, by omega, rfl, Below.refl _ _, Lib.hid fun j h => absurd h (by omega)⟩
  case round =>
    obtain ⟨k, hk, rfl, hb, hok⟩ := hrel
    by_cases hlt : k < n
    · have hkl : k < l.length := by have := HN.out; omega
      obtain ⟨x, hx⟩ : ∃ x, Hid (l[k] = x) := ⟨_, Lib.hid rfl⟩
      obtain ⟨ab, ao, hAe, c0, c1, c2, c3, c4⟩ := (H.out.below hb).at k hlt hkl x hx.out
      subst hAe
      have hgx : Hid (l.getD k im0 = x) := Lib.hid (by rw [List.getD_eq_getElem?_getD, List.getElem?_eq_getElem hkl, hx.out]; rfl)
      have hri := Lib.hid (itemR_iff x)
      have hno : Hid (itemR x = false → q = false) := Lib.hid (fun hr => by rw [← hq.out]; exact itemsR_no hkl (by unfold okAt; rw [hgx.out, hr]; rfl))
      obtain ⟨xc, xv, xl, xw, xn⟩ := x
      dsimp only at c0 c1 c2 c3 c4 hri
      have hb1 := Lib.hid (below2 hb (below_alloc wr (.cells #[.int .i64 xc, .int .i64 xv, .int .i64 xl, .bool xw, .int .i64 xn] 86)))
      by_cases p1 : 0 ≤ xc
      case neg =>
        have e : Hid (q = false) := Lib.hid (hno.out (by rw [Bool.eq_false_iff]; intro ht; have := hri.out.1 ht; omega))
        go_wp2
        go_ret
        exact ⟨retbf e.out, hb1.out⟩
      by_cases p2 : xc ≤ 15
      case neg =>
        have e : Hid (q = false) := Lib.hid (hno.out (by rw [Bool.eq_false_iff]; intro ht; have := hri.out.1 ht; omega))
        go_wp2
        go_ret
        exact ⟨retbf e.out, hb1.out⟩
      by_cases p3 : 0 ≤ xv
      case neg =>
        have e : Hid (q = false) := Lib.hid (hno.out (by rw [Bool.eq_false_iff]; intro ht; have := hri.out.1 ht; omega))
        go_wp2
        go_ret
        exact ⟨retbf e.out, hb1.out⟩
      by_cases p4 : 1099511627776 ≤ xv
      case pos =>
        have e : Hid (q = false) := Lib.hid (hno.out (by rw [Bool.eq_false_iff]; intro ht; have := hri.out.1 ht; omega))
        go_wp2
        go_ret
        exact ⟨retbf e.out, hb1.out⟩
      by_cases p5 : xw = true ∨ xn = 0
      case neg =>
        obtain ⟨hw1, hn1⟩ := not_or.1 p5
        obtain rfl : xw = false := by simpa using hw1
        have e : Hid (q = false) := Lib.hid (hno.out (by rw [Bool.eq_false_iff]; intro ht; have := hri.out.1 ht; simp at this; omega))
        have hn2 : (xn != 0) = true := by simpa using hn1
        clear p5 hw1 hn1
        go_wp2
        go_ret
        exact ⟨retbf e.out, hb1.out⟩
      have hRt : Hid (itemR ⟨xc, xv, xl, xw, xn⟩ = true) := Lib.hid (hri.out.2 ⟨p1, p2, p3, by omega, p5⟩)
      cases xw
      case false =>
        have hn0 : (xn != 0) = false := by rcases p5 with h | h <;> simp_all
        clear p5
        cases k with
        | zero =>
          have HST : Hid (∀ j, j < 1 → okAt l j = true) := Lib.hid (by
            intro j hj
            obtain rfl : j = 0 := by omega
            unfold okAt
            rw [hgx.out, hRt.out]
            rfl)
          simp only [Nat.zero_mul, Nat.add_zero] at c0 c1 c2 c3 c4
          rw [show ((0 : Nat) : Int) = 0 from rfl]
          clear hb
          go_wp2_with fail
          go_quiet (fail)
          go_wp2
          go_roundw
          case rel => exact ⟨1, by omega, rfl, (below2 hb1.out (below_drewN _ _)), HST⟩
          case measure => simp [intOf]; omega
        | succ j =>
          have hjl : j < l.length := by omega
          obtain ⟨y, hy⟩ : ∃ y, Hid (l[j] = y) := ⟨_, Lib.hid rfl⟩
          obtain ⟨ab2, ao2, hAe2, d0, _⟩ := (H.out.below hb).at j (by omega) hjl y hy.out
          injection hAe2 with hAe2
          injection hAe2 with e1 e2 _
          subst e1; subst e2
          have hgy : Hid (l.getD j im0 = y) := Lib.hid (by rw [List.getD_eq_getElem?_getD, List.getElem?_eq_getElem hjl, hy.out]; rfl)
          obtain ⟨pc, pv, pl, pw, pn⟩ := y
          dsimp only at d0
          have hat : Hid (okAt l (j + 1) = decide (pc < xc)) := Lib.hid (by
            unfold okAt
            rw [hgx.out, hRt.out, show j + 1 - 1 = j from rfl, hgy.out]
            simp)
          have HST : Hid (pc < xc → Hid (∀ i, i < j + 1 + 1 → okAt l i = true)) := Lib.hid (fun hz => Lib.hid (by
            intro i hi
            by_cases e : i = j + 1
            · subst e; rw [hat.out]; simpa using hz
            · exact hok.out i (by omega)))
          have HF : Hid (xc ≤ pc → q = false) := Lib.hid (fun hz => by rw [← hq.out]; exact itemsR_no hkl (by rw [hat.out]; simp; omega))
          obtain ⟨k, hkj⟩ : ∃ k, k = j + 1 := ⟨_, rfl⟩
          have hkj0 : 0 < k := by omega
          have hkj2 : (k : Int) - 1 = (j : Int) := by omega
          rw [← hkj] at c0 c1 c2 c3 c4 HST hlt hk ⊢
          have hjn : j < n := by omega
          have hwj : IntKind.i64.wrap (j : Int) = (j : Int) := IntWalk.i64_in (j : Int) (by omega)
          have hd0 := (cell_below (below_alloc wr (.cells #[.int .i64 xc, .int .i64 xv, .int .i64 xl, .bool false, .int .i64 xn] 86)) d0)
          by_cases hz : xc ≤ pc
          case pos =>
            have e : Hid (q = false) := Lib.hid (HF.out hz)
            clear hb hkj
            go_wp2_with fail
            go_quiet (fail)
            go_wp2
            go_ret
            exact ⟨retbf e.out, (below2 hb1.out (below_drewN _ _))⟩
          case neg =>
            have e := HST.out (by omega)
            clear hb hkj
            go_wp2_with fail
            go_quiet (fail)
            go_wp2
            go_roundw
            case rel => exact ⟨k + 1, by omega, by simp, (below2 hb1.out (below_drewN _ _)), e⟩
            case measure => simp [intOf]; omega
      case true =>
        clear p5
        cases k with
        | zero =>
          have HST : Hid (∀ j, j < 1 → okAt l j = true) := Lib.hid (by
            intro j hj
            obtain rfl : j = 0 := by omega
            unfold okAt
            rw [hgx.out, hRt.out]
            rfl)
          simp only [Nat.zero_mul, Nat.add_zero] at c0 c1 c2 c3 c4
          rw [show ((0 : Nat) : Int) = 0 from rfl]
          clear hb
          go_wp2_with fail
          go_quiet (fail)
          go_wp2
          go_roundw
          case rel => exact ⟨1, by omega, rfl, (below2 hb1.out (below_drewN _ _)), HST⟩
          case measure => simp [intOf]; omega
        | succ j =>
          have hjl : j < l.length := by omega
          obtain ⟨y, hy⟩ : ∃ y, Hid (l[j] = y) := ⟨_, Lib.hid rfl⟩
          obtain ⟨ab2, ao2, hAe2, d0, _⟩ := (H.out.below hb).at j (by omega) hjl y hy.out
          injection hAe2 with hAe2
          injection hAe2 with e1 e2 _
          subst e1; subst e2
          have hgy : Hid (l.getD j im0 = y) := Lib.hid (by rw [List.getD_eq_getElem?_getD, List.getElem?_eq_getElem hjl, hy.out]; rfl)
          obtain ⟨pc, pv, pl, pw, pn⟩ := y
          dsimp only at d0
          have hat : Hid (okAt l (j + 1) = decide (pc < xc)) := Lib.hid (by
            unfold okAt
            rw [hgx.out, hRt.out, show j + 1 - 1 = j from rfl, hgy.out]
            simp)
          have HST : Hid (pc < xc → Hid (∀ i, i < j + 1 + 1 → okAt l i = true)) := Lib.hid (fun hz => Lib.hid (by
            intro i hi
            by_cases e : i = j + 1
            · subst e; rw [hat.out]; simpa using hz
            · exact hok.out i (by omega)))
          have HF : Hid (xc ≤ pc → q = false) := Lib.hid (fun hz => by rw [← hq.out]; exact itemsR_no hkl (by rw [hat.out]; simp; omega))
          obtain ⟨k, hkj⟩ : ∃ k, k = j + 1 := ⟨_, rfl⟩
          have hkj0 : 0 < k := by omega
          have hkj2 : (k : Int) - 1 = (j : Int) := by omega
          rw [← hkj] at c0 c1 c2 c3 c4 HST hlt hk ⊢
          have hjn : j < n := by omega
          have hwj : IntKind.i64.wrap (j : Int) = (j : Int) := IntWalk.i64_in (j : Int) (by omega)
          have hd0 := (cell_below (below_alloc wr (.cells #[.int .i64 xc, .int .i64 xv, .int .i64 xl, .bool true, .int .i64 xn] 86)) d0)
          by_cases hz : xc ≤ pc
          case pos =>
            have e : Hid (q = false) := Lib.hid (HF.out hz)
            clear hb hkj
            go_wp2_with fail
            go_quiet (fail)
            go_wp2
            go_ret
            exact ⟨retbf e.out, (below2 hb1.out (below_drewN _ _))⟩
          case neg =>
            have e := HST.out (by omega)
            clear hb hkj
            go_wp2_with fail
            go_quiet (fail)
            go_wp2
            go_roundw
            case rel => exact ⟨k + 1, by omega, by simp, (below2 hb1.out (below_drewN _ _)), e⟩
            case measure => simp [intOf]; omega
    · have e : Hid (q = decide (0 < n)) := Lib.hid (by rw [← hq.out, itemsR_end (fun j hj => hok.out j (by have := HN.out; omega)), HN.out])
      by_cases h0 : 0 < n
      · have e1 : Hid (q = true) := Lib.hid (by rw [e.out]; simpa using h0)
        have h0' : (0 : Int) < (n : Int) := by omega
        go_wp2
        go_ret
        exact ⟨retb e1.out, hb⟩
      · have e1 : Hid (q = false) := Lib.hid (by rw [e.out]; simpa using h0)
        have h0' : ¬ (0 : Int) < (n : Int) := by omega
        go_wp2
        go_ret
        exact ⟨retbf e1.out, hb⟩
end Go.Proofs.Ytfpocddpnoighaa.It

/- the document's Path. -/
import Derived.Test.YtmddcmfleipjjaaSpI
namespace Go.Proofs.Ytmddcmfleipjjaa.Sp
open Go.RowKit Go.Proofs.Ytmddcmfleipjjaa.L Go.Proofs.Ytmddcmfleipjjaa.A Go.Proofs.Ytmddcmfleipjjaa.R Go.Proofs.Ytmddcmfleipjjaa.T Go.Proofs.Ytmddcmfleipjjaa.F Go.Proofs.Ytmddcmfleipjjaa.S
set_option linter.unusedVariables false
set_option linter.unusedSimpArgs false

theorem Gives.row17 {w w' : World} {l : List Int} {e : Ending} (h : Gives w l e w') (hl : l.length = 17) : ∃ g c, e = .returned (.slice (some ⟨g, 0, none⟩) 17 c) ∧ Row17 w' w.heap.size g c l ∧ Below w.heap.size w w' := by
  obtain ⟨v, rfl, ho, hb⟩ := h
  rw [hl] at ho
  rcases ho.2 with ⟨_, e⟩ | ⟨g, cap, cur, rfl, _⟩
  · exfalso
    have : l.length = 0 := by cases l with
      | nil => rfl
      | cons x l => simp [ints] at e
    omega
  · exact ⟨g, cap, rfl, ho, hb⟩
theorem stepsL_len (f t : Int) : (stepsL f t).length = 17 := by
  unfold stepsL
  split
  · rw [foldl_len _ (fun d k => st3_len t _ k d)]; simp
  · simp
theorem Row17.below {w w1 : World} {B g c : Nat} {d : List Int} (h : Row17 w B g c d) (hb : Below w.heap.size w w1) : Row17 w1 B g c d := own_kept h hb
theorem chain_cons {t : Nat} {d : List Int} {b x y : Int} {l : List Int} (h : chainOk t d b (x :: y :: l) = true) : x ≠ b ∧ 1 ≤ y ∧ y ≤ t ∧ hitB t d x y.toNat = true ∧ (∀ m, 1 ≤ m → m < y.toNat → hitB t d x m = false) ∧ chainOk t d b (y :: l) = true := by
  simp only [chainOk, stepOk, Bool.and_eq_true, bne_iff_ne, decide_eq_true_eq] at h
  obtain ⟨⟨h1, ⟨⟨h2, h3⟩, h4⟩, h5⟩, h6⟩ := h
  refine ⟨h1, h2, h3, h4, fun m hm1 hm2 => ?_, h6⟩
  have := List.all_eq_true.1 h5 m (List.mem_range.2 hm2)
  simp only [Bool.or_eq_true, beq_iff_eq, Bool.not_eq_true'] at this
  rcases this with h | h
  · omega
  · exact h
set_option maxHeartbeats 8000000 in
set_option maxRecDepth 100000 in
theorem rpath_any (a b t : Int) (w : World) (ha : -9223372036854775808 ≤ a ∧ a ≤ 9223372036854775807) (hb : -9223372036854775808 ≤ b ∧ b ≤ 9223372036854775807) (ht : -9223372036854775808 ≤ t ∧ t ≤ 9223372036854775807) :
    Calls Try.prog 26 #[.int .i64 a, .int .i64 b, .int .i64 t] w (Gives w (pathL a b t)) := by
  have hsl := stepsL_len b t
  obtain ⟨P, hP⟩ : ∃ P, Hid (pathL a b t = P) := ⟨_, Lib.hid rfl⟩
  rw [hP.out]
  have HC := Lib.hid (steps_any b t w hb ht)
  by_cases hin : (1 ≤ a ∧ a ≤ t) ∧ (1 ≤ b ∧ b ≤ t) ∧ t ≤ 16
  · obtain ⟨an, rfl⟩ : ∃ n : Nat, a = (n : Int) := ⟨a.toNat, by omega⟩
    obtain ⟨bn, rfl⟩ : ∃ n : Nat, b = (n : Int) := ⟨b.toNat, by omega⟩
    obtain ⟨n, rfl⟩ : ∃ n : Nat, t = (n : Int) := ⟨t.toNat, by omega⟩
    have hA : 1 ≤ an ∧ an ≤ n := by omega
    have hB : 1 ≤ bn ∧ bn ≤ n := by omega
    have hn : n ≤ 16 := by omega
    obtain ⟨hz, hhd, hch, hd0, _⟩ := p_ok hA hB hn
    have hPF : Hid (pathF an bn = P) := Lib.hid (by rw [← hP.out, path_eq hA hB hn])
    have hPl : P.length ≤ 100 := by rw [← hP.out]; exact path_len _ _ _
    rw [hPF.out] at hhd hch
    obtain ⟨D, hD⟩ : ∃ D, Hid (stepsL (bn : Int) (n : Int) = D) := ⟨_, Lib.hid rfl⟩
    rw [hD.out] at hz hch hd0 hsl HC
    have HZ : Hid (∀ j, -1 ≤ D.getD j 0 ∧ D.getD j 0 ≤ 100) := Lib.hid fun j => by
      by_cases hj : j < D.length
      · simp only [List.getD_eq_getElem?_getD, List.getElem?_eq_getElem hj, Option.getD_some]; exact hz _ (List.getElem_mem _)
      · simp [List.getD_eq_getElem?_getD, List.getElem?_eq_none (by omega : D.length ≤ j)]
    have HH := Lib.hid hhd
    have HCH := Lib.hid hch
    clear hz hhd hch ha hb ht hin
    go_enter Try.func26, Try.ntmps26
    go_wp2_with fail
    refine HC.out.mono ?_
    intro e w1 hG
    obtain ⟨g, c, rfl, hR, hb1⟩ := hG.row17 hsl
    have ca := hR.cell an (by omega)
    obtain ⟨z, hzz⟩ : ∃ z, Hid (D.getD an 0 = z) := ⟨_, Lib.hid rfl⟩
    rw [hzz.out] at ca hd0
    have hR1 := Lib.hid hR
    have HB1 := Lib.hid hb1
    have e1 : decide ((an : Int) < 1) = false := by simp; omega
    have e2 : decide ((n : Int) < (an : Int)) = false := by simp; omega
    have e2' : decide (n < an) = false := by simp; omega
    have e3 : decide ((16 : Int) < (n : Int)) = false := by simp; omega
    have e3' : decide (16 < n) = false := by simp; omega
    have e4 : decide (z < 0) = false := by simp; omega
    clear hG hR hb1 HC
    go_wp2_with fail
    clear e1 e2 e2' e3 e3' e4 ca
    go_loopg [8, 9] P.length (fun gk v x wr => ∃ (pre rest : List Int) (y k : Nat), gk = rest.length + 1 ∧ x = .int .i64 y ∧ k ≤ 100 ∧ wr.ownsRow w1.heap.size 3 1 v k (ints (pre ++ [(y : Int)])) ∧ Below w1.heap.size w1 wr ∧ Hid ((pre ++ [(y : Int)]).length = k ∧ pre ++ (y : Int) :: rest = P ∧ chainOk n D bn ((y : Int) :: rest) = true ∧ 1 ≤ y ∧ y ≤ n))
    case atStart =>
      obtain ⟨rest, hrest⟩ : ∃ rest, P = (an : Int) :: rest := by
        have h1 := HH.out
        cases P with
        | nil => simp at h1
        | cons x l => simp at h1; exact ⟨l, by rw [h1]⟩
      exact ⟨[], rest, an, 1, by rw [hrest]; simp, rfl, by omega, World.ownsRow_lit (size := 1) w1 #[.int .i64 (an : Int)] 1 (Nat.le_refl _) (by decide) rfl, below_alloc _ _, Lib.hid ⟨rfl, by rw [hrest]; rfl, by rw [← hrest]; exact HCH.out, hA.1, hA.2⟩⟩
    case round =>
      obtain ⟨pre, rest, y, k, rfl, rfl, hk, ho, hb, hE⟩ := hrel
      have HO := Lib.hid ho
      have HB := Lib.hid hb
      clear ho hb
      cases rest with
      | nil =>
        have hyb : (y : Int) = (bn : Int) := by have := hE.out.2.2.1; simpa [chainOk] using this
        have e1 : ((y : Int) != (bn : Int)) = false := by simpa using hyb
        have e1' : (y != bn) = false := by have : y = bn := by omega
                                           simpa using this
        have hres : Hid (P = pre ++ [(y : Int)]) := Lib.hid hE.out.2.1.symm
        clear hyb
        go_wp2
        go_ret
        exact ⟨_, rfl, by rw [hres.out, hE.out.1]; exact own_base HO.out HB1.out.size, HB1.out.trans (HB.out.mono HB1.out.size)⟩
      | cons y2 l =>
        obtain ⟨q1, q2, q3, q4, q5, q6⟩ := chain_cons hE.out.2.2.1
        obtain ⟨m2, rfl⟩ : ∃ m : Nat, y2 = (m : Int) := ⟨y2.toNat, by omega⟩
        rw [Int.toNat_natCast] at q4 q5
        have Q4 := Lib.hid q4
        have Q5 := Lib.hid q5
        have Q6 := Lib.hid q6
        have hy1 : 1 ≤ y ∧ y ≤ n := hE.out.2.2.2
        have e1 : ((y : Int) != (bn : Int)) = true := by simpa using q1
        have e1' : (y != bn) = true := by have : ¬ y = bn := by omega
                                          simpa using this
        have hPk : k + 1 ≤ 100 := by
          have h1 := hE.out.2.1
          have h2 := congrArg List.length h1
          have h3 := hE.out.1
          simp at h2 h3
          omega
        clear q1 q4 q5 q6
        go_wp2_with fail
        clear e1 e1'
        have hRo := Lib.hid (Row17.below hR1.out HB.out)
        go_loopg [9, 10] (m2 - 1) (fun gk s9 i wx => ∃ m : Nat, gk = m2 - m ∧ 1 ≤ m ∧ m ≤ m2 ∧ i = .int .i64 m ∧ s9 = .int .i64 y ∧ Below wr.heap.size wr wx)
        case atStart => exact ⟨1, rfl, by omega, by omega, rfl, rfl, Below.refl _ _⟩
        case round =>
          obtain ⟨m, rfl, hm1, hm2, rfl, rfl, hbx⟩ := hrel
          have hRw := Row17.below hRo.out hbx
          have cm := hRw.cell m (by omega)
          have cy := hRw.cell y (by omega)
          obtain ⟨u, hu⟩ : ∃ u, Hid (D.getD m 0 = u) := ⟨_, Lib.hid rfl⟩
          obtain ⟨v, hv⟩ : ∃ v, Hid (D.getD y 0 = v) := ⟨_, Lib.hid rfl⟩
          have hvb := HZ.out y
          rw [hu.out] at cm
          rw [hv.out] at cy hvb
          have v64 : IntKind.i64.wrap (v - 1) = v - 1 := IntWalk.i64_in _ (by omega)
          have HBX := Lib.hid hbx
          clear hRw hbx
          obtain ⟨E, hE2⟩ : ∃ E, Hid (edgeB (y : Int) (m : Int) n = E) := ⟨_, Lib.hid rfl⟩
          have hhit : Hid (hitB n D (y : Int) m = (E && (u == v - 1))) := Lib.hid (by unfold hitB; rw [hE2.out, hu.out, Int.toNat_natCast, hv.out])
          by_cases hmm : m = m2
          · subst hmm
            have h1 : E = true ∧ u = v - 1 := by have := Q4.out; rw [hhit.out] at this; simpa using this
            obtain ⟨rfl, h2⟩ := h1
            have eu : (u == v - 1) = true := by simpa using h2
            clear h2 hm2
            go_wp2
            go_quiet ((go_at_call 27; exact Calls.quiet_of_same ((edge_any y m n _ (by omega) (by omega) true hE2.out).mono fun _ _ ⟨he, hw⟩ => ⟨he, hw.symm⟩)))
            have HBd := Lib.hid (below2 HBX.out (below_drewN nq _))
            have HO3 := Lib.hid (own_kept HO.out HBd.out)
            have hbs := Nat.le_trans HB.out.size HBd.out.size
            clear cm cy
            obtain ⟨wd, hwd⟩ : ∃ x, Hid (wr.drewN nq = x) := ⟨_, Lib.hid rfl⟩
            rw [hwd.out] at HBd HO3 hbs ⊢
            have hbs2 : w1.heap.size ≤ (wd.alloc (.cells #[.int .i64 (m : Int)] 3)).heap.size := by simp; omega
            have ho4 := HO3.out
            go_wp2_with (at_builtin; refine wpList_append_src _ rfl (.tmp 60) (.tmp 62) w1.heap.size 47 3 (.int .i64 0) 1 8 rfl (by kernel_rfl) (by kernel_rfl) rfl (by decide) (by decide) _ k _ rfl (ho4.alloc _) (some ⟨wd.heap.size, 0, none⟩) 1 1 rfl (fun h => by cases h) [.int .i64 (m : Int)] rfl (lies_block (heap_alloc_new _ _)) (by simp [Value.oneCell']) (by omega) hbs2 ?_; intro v1 w4 ho1 hg1 hv1)
            have hb4 : Below w1.heap.size wd w4 := below_app HO3.out hbs hg1
            go_roundg (l.length + 1)
            case measure => simp
            case rel => exact ⟨pre ++ [(y : Int)], l, m, k + 1, rfl, rfl, hPk, by simpa [ints] using ho1, (HB.out.trans (HBd.out.mono HB.out.size)).trans hb4, Lib.hid ⟨by have := hE.out.1; simp at this ⊢; omega, by rw [← hE.out.2.1]; simp, Q6.out, by omega, by omega⟩⟩
          · have hnh : (E && (u == v - 1)) = false := by rw [← hhit.out]; exact Q5.out m hm1 (by omega)
            cases E
            · clear hnh
              go_wp2
              go_quiet ((go_at_call 27; exact Calls.quiet_of_same ((edge_any y m n _ (by omega) (by omega) false hE2.out).mono fun _ _ ⟨he, hw⟩ => ⟨he, hw.symm⟩)))
              go_wp2
              go_roundg (m2 - (m + 1))
              case measure => omega
              case rel => exact ⟨m + 1, rfl, by omega, by omega, by go_num, rfl, below2 HBX.out (below_drewN _ _)⟩
            · have eu : (u == v - 1) = false := by simpa using hnh
              clear hnh
              go_wp2
              go_quiet ((go_at_call 27; exact Calls.quiet_of_same ((edge_any y m n _ (by omega) (by omega) true hE2.out).mono fun _ _ ⟨he, hw⟩ => ⟨he, hw.symm⟩)))
              go_wp2
              go_roundg (m2 - (m + 1))
              case measure => omega
              case rel => exact ⟨m + 1, rfl, by omega, by omega, by go_num, rfl, below2 HBX.out (below_drewN _ _)⟩
  · have hPn : Hid (P = []) := Lib.hid (by
      rw [← hP.out]
      unfold pathL
      rw [if_neg]
      intro h
      have := has_rng h
      omega)
    go_enter Try.func26, Try.ntmps26
    go_wp2_with fail
    refine HC.out.mono ?_
    intro e w1 hG
    obtain ⟨g, c, rfl, hR, hb1⟩ := hG.row17 hsl
    have HB1 := Lib.hid hb1
    obtain ⟨D, hD⟩ : ∃ D, Hid (stepsL b t = D) := ⟨_, Lib.hid rfl⟩
    rw [hD.out] at hR
    by_cases g1 : a < 1
    · have e1 : decide (a < 1) = true := by simpa using g1
      clear hG hR hb1 HC hin hsl
      go_wp2
      go_ret
      exact ⟨_, rfl, by rw [hPn.out]; exact World.ownsRow_nil _ _ _ _, HB1.out⟩
    · have e1 : decide (a < 1) = false := by simpa using g1
      by_cases g2 : t < a
      · have e2 : decide (t < a) = true := by simpa using g2
        clear hG hR hb1 HC hin hsl
        go_wp2
        go_ret
        exact ⟨_, rfl, by rw [hPn.out]; exact World.ownsRow_nil _ _ _ _, HB1.out⟩
      · have e2 : decide (t < a) = false := by simpa using g2
        by_cases g3 : 16 < t
        · have e3 : decide (16 < t) = true := by simpa using g3
          clear hG hR hb1 HC hin hsl
          go_wp2
          go_ret
          exact ⟨_, rfl, by rw [hPn.out]; exact World.ownsRow_nil _ _ _ _, HB1.out⟩
        · have e3 : decide (16 < t) = false := by simpa using g3
          have hDn : D = List.replicate 17 (-1) := by rw [← hD.out]; unfold stepsL; rw [if_neg (by omega)]
          obtain ⟨an, rfl⟩ : ∃ n : Nat, a = (n : Int) := ⟨a.toNat, by omega⟩
          have ca := hR.cell an (by omega)
          have hz : Hid (D.getD an 0 = -1) := Lib.hid (by
            rw [hDn]
            have : an < 17 := by omega
            rw [List.getD_eq_getElem?_getD, List.getElem?_replicate, if_pos this]
            rfl)
          rw [hz.out] at ca
          clear hG hR hb1 HC hin hsl hDn
          go_wp2
          go_ret
          exact ⟨_, rfl, by rw [hPn.out]; exact World.ownsRow_nil _ _ _ _, HB1.out⟩
end Go.Proofs.Ytmddcmfleipjjaa.Sp

/- the document's Far; trees reckoned; SpanTrees. -/
import Derived.Test.YtbdcgfdchkbcnaaSpN
namespace Go.Proofs.Ytbdcgfdchkbcnaa.Sp
open Go.RowKit Go.Proofs.Ytbdcgfdchkbcnaa.L Go.Proofs.Ytbdcgfdchkbcnaa.A Go.Proofs.Ytbdcgfdchkbcnaa.R Go.Proofs.Ytbdcgfdchkbcnaa.T Go.Proofs.Ytbdcgfdchkbcnaa.F Go.Proofs.Ytbdcgfdchkbcnaa.S
set_option linter.unusedVariables false
set_option linter.unusedSimpArgs false

theorem steps_len_eq {t a b : Nat} (ha : 1 ≤ a ∧ a ≤ t) (hb : 1 ≤ b ∧ b ≤ t) (ht : t ≤ 16) : (stepsL (a : Int) (t : Int)).getD b 0 = ((pathL (a : Int) (b : Int) (t : Int)).length : Int) - 1 := by
  have h := (p_ok (a := b) (b := a) hb ha ht).2.2.2.2
  have h2 := (path_back ha hb ht).1
  rw [h, ← path_eq hb ha ht, h2, List.length_reverse]
set_option maxHeartbeats 4000000 in
set_option maxRecDepth 100000 in
theorem rfar_any (t : Int) (w : World) (ht : -9223372036854775808 ≤ t ∧ t ≤ 9223372036854775807) : Calls Try.prog 46 #[.int .i64 t] w fun e w' => e = .returned (.int .i64 (farI t)) ∧ Below w.heap.size w w' := by
  obtain ⟨P, hP⟩ : ∃ P, Hid (farI t = P) := ⟨_, Lib.hid rfl⟩
  have hP2 := Lib.hid hP.out
  unfold farI at hP2
  rw [hP.out]
  by_cases hin : 1 ≤ t ∧ t ≤ 16
  · have hh : hasB t [t] = true := by simp [hasB, offB]; omega
    have hPn : Hid (outF t t.toNat = P) := Lib.hid (by rw [← hP2.out]; simp [hh])
    obtain ⟨n, rfl⟩ : ∃ n : Nat, t = (n : Int) := ⟨t.toNat, by omega⟩
    have hn : 1 ≤ n ∧ n ≤ 16 := by omega
    have e3 : decide ((n : Int) ≤ 16) = true := by simp; omega
    have e3' : decide (n ≤ 16) = true := by simp; omega
    clear hh ht hin
    go_enter Try.func46, Try.ntmps46
    go_wp2_with fail
    go_loopg [3, 4] n (fun gk m i wr => ∃ k : Nat, gk = n - k ∧ k ≤ n ∧ i = .int .i64 ((k : Int) + 1) ∧ m = .int .i64 (outF n k) ∧ Below w.heap.size w wr)
    case atStart => exact ⟨0, by omega, by omega, rfl, rfl, Below.refl _ _⟩
    case round =>
      obtain ⟨k, rfl, hk, rfl, rfl, hb⟩ := hrel
      by_cases hlt : k < n
      · obtain ⟨O, hO⟩ : ∃ O, Hid (outF n k = O) := ⟨_, Lib.hid rfl⟩
        rw [hO.out]
        have hstep : Hid (outF n (k + 1) = inF n ((k : Int) + 1) n O) := Lib.hid (by rw [outF, hO.out, Int.toNat_natCast])
        have HB := Lib.hid hb
        have dk : decide ((k : Int) + 1 ≤ (n : Int)) = true := by simp; omega
        have hD0 := Lib.hid (fun b (hb1 : 1 ≤ b ∧ b ≤ n) => steps_len_eq (t := n) (a := k + 1) (b := b) (by omega) hb1 hn.2)
        have ek : Hid (((k + 1 : Nat) : Int) = (k : Int) + 1) := Lib.hid (by omega)
        rw [ek.out] at hD0
        clear hb
        go_wp2_with fail
        refine (steps_any ((k : Int) + 1) n _ (by omega) (by omega)).mono ?_
        intro e w2 hG
        obtain ⟨g, c, rfl, hR, hb2⟩ := hG.row17 (stepsL_len _ _)
        obtain ⟨D, hD⟩ : ∃ D, Hid (stepsL ((k : Int) + 1) (n : Int) = D) := ⟨_, Lib.hid rfl⟩
        rw [hD.out] at hR hD0
        have HR := Lib.hid hR
        have HB2 := Lib.hid (HB.out.trans (hb2.mono HB.out.size))
        clear hG hR hb2
        go_wp2_with fail
        clear dk
        go_loopg [3, 6] n (fun gk m i wx => ∃ b : Nat, gk = n - b ∧ b ≤ n ∧ i = .int .i64 ((b : Int) + 1) ∧ m = .int .i64 (inF n ((k : Int) + 1) b O) ∧ w2 = wx)
        case atStart => exact ⟨0, by omega, by omega, rfl, rfl, rfl⟩
        case round =>
          obtain ⟨b, rfl, hbn, rfl, rfl, rfl⟩ := hrel
          by_cases hbl : b < n
          · obtain ⟨M, hM⟩ : ∃ M, Hid (inF n ((k : Int) + 1) b O = M) := ⟨_, Lib.hid rfl⟩
            rw [hM.out]
            have hcell := HR.out.cell (b + 1) (by omega)
            obtain ⟨z, hz⟩ : ∃ z, Hid (D.getD (b + 1) 0 = z) := ⟨_, Lib.hid rfl⟩
            rw [hz.out] at hcell
            have hzz := hD0.out (b + 1) (by omega)
            rw [hz.out] at hzz
            have eb : ((b + 1 : Nat) : Int) = (b : Int) + 1 := by omega
            rw [eb] at hzz
            have hstep2 : Hid (inF n ((k : Int) + 1) (b + 1) O = most M z) := Lib.hid (by rw [inF, hM.out, hzz])
            clear hzz eb
            by_cases hx : M < z
            · go_wp2
              go_roundg (n - (b + 1))
              case measure => omega
              case rel => exact ⟨b + 1, rfl, by omega, by go_num, congrArg (Value.int .i64) (by rw [hstep2.out]; unfold most; rw [if_pos hx]), rfl⟩
            · go_wp2
              go_roundg (n - (b + 1))
              case measure => omega
              case rel => exact ⟨b + 1, rfl, by omega, by go_num, congrArg (Value.int .i64) (by rw [hstep2.out]; unfold most; rw [if_neg (by omega)]), rfl⟩
          · have hbe : b = n := by omega
            subst hbe
            clear hbn
            go_wp2
            go_roundg (b - (k + 1))
            case measure => omega
            case rel => exact ⟨k + 1, rfl, by omega, by go_num, congrArg (Value.int .i64) (by rw [hstep.out]), HB2.out⟩
      · have hke : k = n := by omega
        subst hke
        clear hk
        go_wp2
        go_ret
        exact ⟨reti (by have := hPn.out; rw [Int.toNat_natCast] at this; exact this), hb⟩
  · have hh : hasB t [t] = false := by simp [hasB, offB]; omega
    have hPn : Hid (0 = P) := Lib.hid (by rw [← hP2.out]; simp [hh])
    by_cases h1 : 1 ≤ t
    · have e1 : decide ((1 : Int) ≤ t) = true := by simpa using h1
      have e2 : decide (t ≤ 16) = false := by simp; omega
      clear hh ht hin
      go_enter Try.func46, Try.ntmps46
      go_wp2
      refine wp_loop_rounds 1 ?_
      rw [rounds_succ]
      go_wp2
      go_ret
      exact ⟨reti hPn.out, Below.refl _ _⟩
    · have e1 : decide ((1 : Int) ≤ t) = false := by simpa using h1
      clear hh ht hin
      go_enter Try.func46, Try.ntmps46
      go_wp2
      refine wp_loop_rounds 1 ?_
      rw [rounds_succ]
      go_wp2
      go_ret
      exact ⟨reti hPn.out, Below.refl _ _⟩
def M16 : List Int := (List.range 16).map fun m : Nat => (m : Int) + 1
def allL (n t : Int) : List Int := M16.filter fun m => edgeB n m t
def chL (n t : Int) : List Int := M16.filter fun m => edgeB n m t && decide (n < m)
def treeOk : Bool := (List.range 17).all fun t => (List.range (t + 1)).all fun n => n == 0 || ((childL n t == chL n t) && (neighL n t == allL n t))
set_option maxRecDepth 100000 in
theorem tree_ok : treeOk = true := by kernel_rfl
theorem tree_eq (n t : Int) : childL n t = chL n t ∧ neighL n t = allL n t := by
  by_cases hin : 1 ≤ n ∧ n ≤ t ∧ t ≤ 16
  · obtain ⟨a, rfl⟩ : ∃ a : Nat, n = (a : Int) := ⟨n.toNat, by omega⟩
    obtain ⟨b, rfl⟩ : ∃ b : Nat, t = (b : Int) := ⟨t.toNat, by omega⟩
    have h := List.all_eq_true.1 tree_ok b (List.mem_range.2 (by omega))
    have h2 := List.all_eq_true.1 h a (List.mem_range.2 (by omega))
    simp only [Bool.or_eq_true, Bool.and_eq_true, beq_iff_eq] at h2
    rcases h2 with h2 | h2
    · omega
    · exact h2
  · have hh : hasB t [n] = false := by simp [hasB, offB]; omega
    have hh2 : hasB t [n, parI n] = false := by simp [hasB, offB]; omega
    have he : ∀ m, edgeB n m t = false := fun m => by
      simp only [edgeB, Bool.and_eq_false_iff, Bool.not_eq_false', Bool.or_eq_true, decide_eq_true_eq]
      left
      omega
    have h1 : childL n t = [] := by simp [childL, hh]
    refine ⟨?_, ?_⟩
    · rw [h1]; simp [chL, he]
    · unfold neighL; rw [hh2, h1]; simp [allL, he]
end Go.Proofs.Ytbdcgfdchkbcnaa.Sp

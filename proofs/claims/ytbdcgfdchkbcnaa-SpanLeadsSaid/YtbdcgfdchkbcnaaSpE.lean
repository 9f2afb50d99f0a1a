/- SpanBack: the walk. -/
import Derived.Test.YtbdcgfdchkbcnaaSpD
import Derived.Test.YtbdcgfdchkbcnaaO
namespace Go.Proofs.Ytbdcgfdchkbcnaa.Sp
open Go.RowKit Go.Proofs.Ytbdcgfdchkbcnaa.L Go.Proofs.Ytbdcgfdchkbcnaa.A Go.Proofs.Ytbdcgfdchkbcnaa.R Go.Proofs.Ytbdcgfdchkbcnaa.T Go.Proofs.Ytbdcgfdchkbcnaa.F Go.Proofs.Ytbdcgfdchkbcnaa.S
set_option linter.unusedVariables false
set_option linter.unusedSimpArgs false

theorem one_mod (x n : Nat) (h : 1 ≤ n) : 1 ≤ 1 + x % n ∧ 1 + x % n ≤ n := by
  have := Nat.mod_lt x (show 0 < n by omega)
  omega
set_option maxHeartbeats 4000000 in
set_option maxRecDepth 100000 in
theorem back_walk (w : World) (f t m : Nat) (hf : f < 256) (ht : t < 256) (hm : m < 256) : Calls Try.prog 7 #[.int .u8 f, .int .u8 t, .int .u8 m] w fun e w' => e = .returned (.bool true) ∧ Below w.heap.size w w' := by
  obtain ⟨n, hn⟩ : ∃ n : Nat, Hid (1 + (m : Int) % 16 = (n : Int)) := ⟨1 + m % 16, Lib.hid (by omega)⟩
  have hn1 : 1 ≤ n := by have := hn.out; omega
  have hn2 : n ≤ 16 := by have := hn.out; omega
  obtain ⟨ha1, ha2⟩ := one_mod f n hn1
  obtain ⟨hb1, hb2⟩ := one_mod t n hn1
  obtain ⟨a, ha⟩ : ∃ a : Nat, Hid (1 + (f : Int) % (n : Int) = (a : Int)) := ⟨1 + f % n, Lib.hid (by omega)⟩
  obtain ⟨b, hb⟩ : ∃ b : Nat, Hid (1 + (t : Int) % (n : Int) = (b : Int)) := ⟨1 + t % n, Lib.hid (by omega)⟩
  have hA : 1 ≤ a ∧ a ≤ n := by have := ha.out; omega
  have hB : 1 ≤ b ∧ b ≤ n := by have := hb.out; omega
  clear ha1 ha2 hb1 hb2
  obtain ⟨P, hP⟩ : ∃ P, Hid (pathL a b n = P) := ⟨_, Lib.hid rfl⟩
  obtain ⟨D1, hD1⟩ : ∃ D, Hid (depI a = D) := ⟨_, Lib.hid rfl⟩
  obtain ⟨D2, hD2⟩ : ∃ D, Hid (depI b = D) := ⟨_, Lib.hid rfl⟩
  have hfacts := path_back hA hB hn2
  have hPl := path_len a b n
  rw [hP.out, hD1.out, hD2.out] at hfacts
  rw [hP.out] at hPl
  have hF := Lib.hid hfacts
  obtain ⟨q, hq⟩ : ∃ q, Hid (P.length = q) := ⟨_, Lib.hid rfl⟩
  have hq1 : 1 ≤ q ∧ (q : Int) - 1 ≤ D1 + D2 := by have := hfacts.2; rw [hq.out] at this; exact this
  rw [hq.out] at hPl
  clear hfacts
  go_enter Try.func7, Try.ntmps7
  go_wp2_with fail
  refine (awake_any w).mono ?_
  rintro e w1 ⟨rfl, hb1⟩
  go_wp2_with fail
  rw [hn.out]
  go_quiet (fail)
  go_wp2_with fail
  have hwa : wrap64 (1 + (f : Int) % (n : Int)) = (a : Int) := (IntWalk.wrap64_in _ (by have := ha.out; omega)).trans ha.out
  have hwb : wrap64 (1 + (t : Int) % (n : Int)) = (b : Int) := (IntWalk.wrap64_in _ (by have := hb.out; omega)).trans hb.out
  rw [hwa, hwb]
  have HW := Lib.hid (And.intro hwa hwb)
  clear hwa hwb
  have HB1 := Lib.hid (below2 hb1 (below_drewN nq w1))
  clear hb1
  refine (path_any a b n _).mono ?_
  intro e w2 hG
  rw [hP.out] at hG
  obtain ⟨A1, c1, rfl, r1, _, _, hb2⟩ := hG.rd
  rw [hq.out] at r1 ⊢
  have R1 := Lib.hid r1
  have HB2 := Lib.hid (below2 HB1.out hb2)
  clear hG r1 hb2 HB1
  go_wp2_with fail
  refine (path_any b a n _).mono ?_
  intro e w3 hG
  rw [hF.out.1] at hG
  obtain ⟨A2, c2, rfl, r2, _, _, hb3⟩ := hG.rd
  rw [List.length_reverse, hq.out] at r2 ⊢
  have R1' := Lib.hid (R1.out.below hb3)
  have R2 := Lib.hid r2
  have HB3 := Lib.hid (below2 HB2.out hb3)
  clear hG r2 hb3 R1 HB2
  go_wp2_with fail
  go_loopg [39] q (fun gk i wr => ∃ k : Nat, gk = q - k ∧ k ≤ q ∧ i = .int .i64 k ∧ Below w3.heap.size w3 wr)
  case atStart => exact ⟨0, by omega, by omega, rfl, Below.refl _ _⟩
  case round =>
    obtain ⟨k, rfl, hk, rfl, hbw⟩ := hrel
    by_cases hlt : k < q
    · obtain ⟨g1, o1, hA1, hc1⟩ := (R1'.out.below hbw).2.2 (by omega)
      obtain ⟨g2, o2, hA2, hc2⟩ := (R2.out.below hbw).2.2 (by omega)
      subst hA1
      subst hA2
      obtain ⟨j, hj⟩ : ∃ j : Nat, Hid ((q : Int) - 1 - (k : Int) = (j : Int)) := ⟨q - 1 - k, Lib.hid (by omega)⟩
      have hjq : j < q := by have := hj.out; omega
      have hkP : k < P.length := by rw [hq.out]; exact hlt
      obtain ⟨x, hx⟩ : ∃ x, Hid (P[k] = x) := ⟨_, Lib.hid rfl⟩
      have e1 := hc1 k hlt
      have e2 := hc2 j hjq
      rw [ints, List.getElem?_map, List.getElem?_eq_getElem hkP, hx.out] at e1
      have hjr : P.reverse[j]? = some x := by
        rw [List.getElem?_reverse (by rw [hq.out]; exact hjq), ← hx.out, ← List.getElem?_eq_getElem hkP]
        congr 1
        rw [hq.out]
        have := hj.out
        omega
      rw [ints, List.getElem?_map, hjr] at e2
      simp only [Option.map_some] at e1 e2
      have w64 : IntKind.i64.wrap ((q : Int) - 1) = (q : Int) - 1 := IntWalk.i64_in _ (by omega)
      have v64 : IntKind.i64.wrap ((q : Int) - 1 - (k : Int)) = (j : Int) := (IntWalk.i64_in _ (by omega)).trans hj.out
      have d1 : decide ((q : Int) ≤ (k : Int)) = false := by simp; omega
      have d2 : decide (q ≤ k) = false := by simp; omega
      have HBW := Lib.hid hbw
      clear hc1 hc2 hjr hbw
      go_wp2
      go_quiet (fail)
      go_wp2
      go_roundg (q - (k + 1))
      case measure => omega
      case rel => exact ⟨k + 1, rfl, by omega, by go_num, below2 HBW.out (below_drewN _ _)⟩
    · have hke : k = q := by omega
      subst hke
      have w64 : IntKind.i64.wrap ((k : Int) - 1) = (k : Int) - 1 := IntWalk.i64_in _ (by omega)
      have hd1 : depI a ≤ 63 ∧ 0 ≤ depI a := by have := upI_len 63 a (by omega); unfold depI; split <;> omega
      have hd2 : depI b ≤ 63 ∧ 0 ≤ depI b := by have := upI_len 63 b (by omega); unfold depI; split <;> omega
      rw [hD1.out] at hd1
      rw [hD2.out] at hd2
      have HBW := Lib.hid hbw
      have hle : (k : Int) - 1 ≤ D1 + D2 := hq1.2
      clear hk hbw hlt
      go_wp2_with fail
      refine (depth_any a _ (by omega)).mono ?_
      rintro e w5 ⟨rfl, hb5⟩
      rw [hD1.out]
      go_wp2_with fail
      refine (depth_any b _ (by omega)).mono ?_
      rintro e w6 ⟨rfl, hb6⟩
      rw [hD2.out]
      go_wp2
      go_ret
      exact ⟨rfl, HB3.out.trans ((below2 HBW.out (below2 hb5 hb6)).mono HB3.out.size)⟩
end Go.Proofs.Ytbdcgfdchkbcnaa.Sp

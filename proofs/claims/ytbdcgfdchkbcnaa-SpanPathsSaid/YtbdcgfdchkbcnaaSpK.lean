/- SpanPaths: the walk. -/
import Derived.Test.YtbdcgfdchkbcnaaSpJ
import Derived.Test.YtbdcgfdchkbcnaaO
namespace Go.Proofs.Ytbdcgfdchkbcnaa.Sp
open Go.RowKit Go.Proofs.Ytbdcgfdchkbcnaa.L Go.Proofs.Ytbdcgfdchkbcnaa.A Go.Proofs.Ytbdcgfdchkbcnaa.R Go.Proofs.Ytbdcgfdchkbcnaa.T Go.Proofs.Ytbdcgfdchkbcnaa.F Go.Proofs.Ytbdcgfdchkbcnaa.S
set_option linter.unusedVariables false
set_option linter.unusedSimpArgs false

set_option maxHeartbeats 4000000 in
theorem paths_walk (w : World) (a b t : Int) (ha : -9223372036854775808 ≤ a ∧ a ≤ 9223372036854775807) (hb : -9223372036854775808 ≤ b ∧ b ≤ 9223372036854775807) (ht : -9223372036854775808 ≤ t ∧ t ≤ 9223372036854775807) :
    Calls Try.prog 8 #[.int .i64 a, .int .i64 b, .int .i64 t] w fun e w' => e = .returned (.bool true) ∧ Below w.heap.size w w' := by
  have HR := Lib.hid fun w1 => rpath_any a b t w1 ha hb ht
  have HQ := Lib.hid fun w1 => path_any a b t w1
  have HT := Lib.hid fun w1 => toward_any a b t w1
  have hpl := path_len a b t
  obtain ⟨y, hy⟩ : ∃ y, Hid (towI a b t = y) := ⟨_, Lib.hid rfl⟩
  have hy2 := Lib.hid hy.out
  unfold towI at hy2
  rw [hy.out] at HT
  obtain ⟨P, hP⟩ : ∃ P, Hid (pathL a b t = P) := ⟨_, Lib.hid rfl⟩
  rw [hP.out] at HR HQ hy2 hpl
  have hsame : Hid ((P == P) = true) := Lib.hid (by simp)
  clear ha hb ht
  have fin : ∀ (A : Option Addr) (c q : Nat) (w1 w2 w3 : World), P.length = q → True := fun _ _ _ _ _ _ _ => trivial
  match P, HR, HQ, hy2, hsame, hpl with
  | [], HR, HQ, hy2, hsame, hpl =>
    have hres : Hid (y = 0) := Lib.hid hy2.out.symm
    go_enter Try.func8, Try.ntmps8
    go_wp2_with fail
    refine (awake_any w).mono ?_
    rintro e w1 ⟨rfl, hb1⟩
    go_wp2_with fail
    refine (HR.out w1).mono ?_
    intro e w2 hG
    obtain ⟨A, c, rfl, r2, _, _, hb2⟩ := hG.rd
    clear hG
    go_wp2_with fail
    refine (HQ.out w2).mono ?_
    intro e w3 hG
    obtain ⟨A3, c3, rfl, r3, _, _, hb3⟩ := hG.rd
    clear hG
    go_wp2_with fail
    refine (same_any A3 A _ c3 _ c [] [] w3 r3 (r2.below hb3) true hsame.out).mono ?_
    rintro e w4 ⟨rfl, hb4⟩
    clear r2 r3
    go_wp2_with fail
    refine (HT.out w4).mono ?_
    rintro e w5 ⟨rfl, hb5⟩
    rw [hres.out]
    go_wp2
    go_ret
    exact ⟨rfl, below2 hb1 (below2 hb2 (below2 hb3 (below2 hb4 hb5)))⟩
  | [x], HR, HQ, hy2, hsame, hpl =>
    have hres : Hid (y = a) := Lib.hid hy2.out.symm
    go_enter Try.func8, Try.ntmps8
    go_wp2_with fail
    refine (awake_any w).mono ?_
    rintro e w1 ⟨rfl, hb1⟩
    go_wp2_with fail
    refine (HR.out w1).mono ?_
    intro e w2 hG
    obtain ⟨A, c, rfl, r2, _, _, hb2⟩ := hG.rd
    clear hG
    go_wp2_with fail
    refine (HQ.out w2).mono ?_
    intro e w3 hG
    obtain ⟨A3, c3, rfl, r3, _, _, hb3⟩ := hG.rd
    clear hG
    go_wp2_with fail
    refine (same_any A3 A _ c3 _ c [x] [x] w3 r3 (r2.below hb3) true hsame.out).mono ?_
    rintro e w4 ⟨rfl, hb4⟩
    clear r2 r3
    go_wp2_with fail
    refine (HT.out w4).mono ?_
    rintro e w5 ⟨rfl, hb5⟩
    rw [hres.out]
    go_wp2
    go_ret
    exact ⟨rfl, below2 hb1 (below2 hb2 (below2 hb3 (below2 hb4 hb5)))⟩
  | x :: z :: l, HR, HQ, hy2, hsame, hpl =>
    have hres : Hid (y = z) := Lib.hid hy2.out.symm
    obtain ⟨q, hq⟩ : ∃ q, Hid ((x :: z :: l).length = q) := ⟨_, Lib.hid rfl⟩
    rw [hq.out] at hpl
    have hq2 : 2 ≤ q := by have := hq.out; simp at this; omega
    have e1 : ((q : Int) == 1) = false := by simp; omega
    have e1' : (q == 1) = false := by simp; omega
    go_enter Try.func8, Try.ntmps8
    go_wp2_with fail
    refine (awake_any w).mono ?_
    rintro e w1 ⟨rfl, hb1⟩
    go_wp2_with fail
    refine (HR.out w1).mono ?_
    intro e w2 hG
    obtain ⟨A, c, rfl, r2, _, _, hb2⟩ := hG.rd
    rw [hq.out] at r2 ⊢
    obtain ⟨ab, ao, hA, hc⟩ := r2.2.2 (by omega)
    subst hA
    have h1 : w2.cell? ⟨ab, ao + 1, none⟩ = some (.int .i64 z) := hc 1 (by omega)
    have R2 := Lib.hid r2
    clear hG hc r2
    go_wp2_with fail
    refine (HQ.out w2).mono ?_
    intro e w3 hG
    obtain ⟨A3, c3, rfl, r3, _, _, hb3⟩ := hG.rd
    rw [hq.out] at r3 ⊢
    clear hG h1
    go_wp2_with fail
    refine (same_any A3 _ q c3 q c (x :: z :: l) (x :: z :: l) w3 r3 (R2.out.below hb3) true hsame.out).mono ?_
    rintro e w4 ⟨rfl, hb4⟩
    clear r3
    go_wp2_with fail
    refine (HT.out w4).mono ?_
    rintro e w5 ⟨rfl, hb5⟩
    rw [hres.out]
    go_wp2
    go_ret
    exact ⟨rfl, below2 hb1 (below2 hb2 (below2 hb3 (below2 hb4 hb5)))⟩
theorem paths_row (w : World) (a b c : Int) (ha : (Lit.int .i64 a).wf = true) (hb : (Lit.int .i64 b).wf = true) (hc : (Lit.int .i64 c).wf = true) :
    Calls Try.prog 8 #[.int .i64 a, .int .i64 b, .int .i64 c] w fun e w' => e = .returned (.bool true) ∧ Below w.heap.size w w' := paths_walk w a b c (bounds_i64 ha) (bounds_i64 hb) (bounds_i64 hc)
end Go.Proofs.Ytbdcgfdchkbcnaa.Sp

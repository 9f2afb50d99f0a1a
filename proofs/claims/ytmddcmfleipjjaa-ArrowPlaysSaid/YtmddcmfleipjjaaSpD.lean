/- Toward alone (for seats that reach no Depth and no Far). -/
import Derived.Test.YtmddcmfleipjjaaSpM
namespace Go.Proofs.Ytmddcmfleipjjaa.Sp
open Go.RowKit Go.Proofs.Ytmddcmfleipjjaa.L Go.Proofs.Ytmddcmfleipjjaa.A Go.Proofs.Ytmddcmfleipjjaa.R Go.Proofs.Ytmddcmfleipjjaa.T Go.Proofs.Ytmddcmfleipjjaa.F Go.Proofs.Ytmddcmfleipjjaa.S
set_option linter.unusedVariables false
set_option linter.unusedSimpArgs false

theorem toward_any (a b t : Int) (w : World) : Calls Try.prog 28 #[.int .i64 a, .int .i64 b, .int .i64 t] w fun e w' => e = .returned (.int .i64 (towI a b t)) ∧ Below w.heap.size w w' := by
  have HC := Lib.hid (path_any a b t w)
  obtain ⟨r, hr⟩ : ∃ r, Hid (towI a b t = r) := ⟨_, Lib.hid rfl⟩
  have hr2 := Lib.hid hr.out
  unfold towI at hr2
  rw [hr.out]
  obtain ⟨P, hP⟩ : ∃ P, Hid (pathL a b t = P) := ⟨_, Lib.hid rfl⟩
  rw [hP.out] at HC hr2
  match P, HC, hr2 with
  | [], HC, hr2 =>
    have hres : Hid (0 = r) := hr2
    go_enter Try.func28, Try.ntmps28
    go_wp2_with fail
    refine HC.out.mono ?_
    intro e w1 hG
    obtain ⟨A, c, rfl, _, _, _, hb⟩ := hG.rd
    clear hG HC
    go_wp2
    go_ret
    exact ⟨reti hres.out, hb⟩
  | [x], HC, hr2 =>
    have hres : Hid (a = r) := hr2
    go_enter Try.func28, Try.ntmps28
    go_wp2_with fail
    refine HC.out.mono ?_
    intro e w1 hG
    obtain ⟨A, c, rfl, _, _, _, hb⟩ := hG.rd
    clear hG HC
    go_wp2
    go_ret
    exact ⟨reti hres.out, hb⟩
  | x :: y :: l, HC, hr2 =>
    have hres : Hid (y = r) := hr2
    go_enter Try.func28, Try.ntmps28
    go_wp2_with fail
    refine HC.out.mono ?_
    intro e w1 hG
    obtain ⟨A, c, rfl, hr, _, _, hb⟩ := hG.rd
    obtain ⟨q, hq⟩ : ∃ q, Hid ((x :: y :: l).length = q) := ⟨_, Lib.hid rfl⟩
    rw [hq.out] at hr ⊢
    have hq2 : 2 ≤ q := by have := hq.out; simp at this; omega
    have hq3 := hr.2.1
    obtain ⟨ab, ao, hA, hc⟩ := hr.2.2 (by omega)
    subst hA
    have h1 : w1.cell? ⟨ab, ao + 1, none⟩ = some (.int .i64 y) := hc 1 (by omega)
    have e0 : ((q : Int) == 0) = false := by simp; omega
    have e1 : ((q : Int) == 1) = false := by simp; omega
    clear hc hG HC hr
    go_wp2
    go_ret
    exact ⟨reti hres.out, hb⟩
theorem path_len (a b t : Int) : (pathL a b t).length ≤ 100 := by
  unfold pathL
  split
  · rename_i h
    have hr := has_rng h
    have h1 := upI_len 5 a (by omega)
    have h2 := upI_len 5 b (by omega)
    have key : ∀ (u acc : List Int), (pathGo (upI b) acc u).length ≤ acc.length + u.length + 5 := by
      intro u
      induction u with
      | nil => intro acc; simp [pathGo]
      | cons x u ih =>
        intro acc
        rw [pathGo]
        split
        · simp; omega
        · have := ih (acc ++ [x])
          simp at this ⊢
          omega
    have := key (upI a) []
    simp at this
    omega
  · simp
end Go.Proofs.Ytmddcmfleipjjaa.Sp

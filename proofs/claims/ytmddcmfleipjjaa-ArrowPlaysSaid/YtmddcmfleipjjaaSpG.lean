/- the document's tree: Edge, Steps. -/
import Derived.Test.YtmddcmfleipjjaaSpD
namespace Go.Proofs.Ytmddcmfleipjjaa.Sp
open Go.RowKit Go.Proofs.Ytmddcmfleipjjaa.L Go.Proofs.Ytmddcmfleipjjaa.A Go.Proofs.Ytmddcmfleipjjaa.R Go.Proofs.Ytmddcmfleipjjaa.T Go.Proofs.Ytmddcmfleipjjaa.F Go.Proofs.Ytmddcmfleipjjaa.S
set_option linter.unusedVariables false
set_option linter.unusedSimpArgs false

def edgeB (a b t : Int) : Bool :=
  !(decide (a < 1) || decide (b < 1) || decide (t < a) || decide (t < b) || decide (16 < t)) && ((decide (1 < a) && a / 2 == b) || (decide (1 < b) && b / 2 == a))
set_option maxHeartbeats 2000000 in
theorem edge_any (a b t : Int) (w : World) (ha : -9223372036854775808 ≤ a ∧ a ≤ 9223372036854775807) (hb : -9223372036854775808 ≤ b ∧ b ≤ 9223372036854775807) (r : Bool) (hr' : edgeB a b t = r) :
    Calls Try.prog 27 #[.int .i64 a, .int .i64 b, .int .i64 t] w fun e w' => e = .returned (.bool r) ∧ w = w' := by
  have hr := Lib.hid hr'
  clear hr'
  by_cases h1 : a < 1
  · have e : Hid (r = false) := Lib.hid (by rw [← hr.out]; simp [edgeB, h1])
    have d1 : decide (a < 1) = true := by simpa using h1
    go_enter Try.func27, Try.ntmps27
    go_wp2
    go_ret
    exact ⟨retbf e.out, rfl⟩
  have d1 : decide (a < 1) = false := by simpa using h1
  by_cases h2 : b < 1
  · have e : Hid (r = false) := Lib.hid (by rw [← hr.out]; simp [edgeB, h2])
    have d2 : decide (b < 1) = true := by simpa using h2
    go_enter Try.func27, Try.ntmps27
    go_wp2
    go_ret
    exact ⟨retbf e.out, rfl⟩
  have d2 : decide (b < 1) = false := by simpa using h2
  by_cases h3 : t < a
  · have e : Hid (r = false) := Lib.hid (by rw [← hr.out]; simp [edgeB, h3])
    have d3 : decide (t < a) = true := by simpa using h3
    go_enter Try.func27, Try.ntmps27
    go_wp2
    go_ret
    exact ⟨retbf e.out, rfl⟩
  have d3 : decide (t < a) = false := by simpa using h3
  by_cases h4 : t < b
  · have e : Hid (r = false) := Lib.hid (by rw [← hr.out]; simp [edgeB, h4])
    have d4 : decide (t < b) = true := by simpa using h4
    go_enter Try.func27, Try.ntmps27
    go_wp2
    go_ret
    exact ⟨retbf e.out, rfl⟩
  have d4 : decide (t < b) = false := by simpa using h4
  by_cases h5 : 16 < t
  · have e : Hid (r = false) := Lib.hid (by rw [← hr.out]; simp [edgeB, h5])
    have d5 : decide (16 < t) = true := by simpa using h5
    go_enter Try.func27, Try.ntmps27
    go_wp2
    go_ret
    exact ⟨retbf e.out, rfl⟩
  have d5 : decide (16 < t) = false := by simpa using h5
  have hE : Hid (r = ((decide (1 < a) && a / 2 == b) || (decide (1 < b) && b / 2 == a))) := Lib.hid (by rw [← hr.out]; simp [edgeB, h1, h2, h3, h4, h5])
  obtain ⟨p, hp⟩ : ∃ p, Hid ((a / 2 == b) = p) := ⟨_, Lib.hid rfl⟩
  obtain ⟨q, hq⟩ : ∃ q, Hid ((b / 2 == a) = q) := ⟨_, Lib.hid rfl⟩
  rw [hp.out, hq.out] at hE
  have hp2 := hp.out
  have hq2 := hq.out
  by_cases h6 : 1 < a
  · have d6 : decide (1 < a) = true := by simpa using h6
    rw [d6] at hE
    cases p
    · by_cases h7 : 1 < b
      · have d7 : decide (1 < b) = true := by simpa using h7
        rw [d7] at hE
        cases q
        all_goals
          go_enter Try.func27, Try.ntmps27
          go_wp2
          go_ret
          exact ⟨retv (congrArg Value.bool (by rw [hE.out]; rfl)), rfl⟩
      · have d7 : decide (1 < b) = false := by simpa using h7
        rw [d7] at hE
        go_enter Try.func27, Try.ntmps27
        go_wp2
        go_ret
        exact ⟨retv (congrArg Value.bool (by rw [hE.out]; rfl)), rfl⟩
    · go_enter Try.func27, Try.ntmps27
      go_wp2
      go_ret
      exact ⟨retv (congrArg Value.bool (by rw [hE.out]; rfl)), rfl⟩
  · have d6 : decide (1 < a) = false := by simpa using h6
    rw [d6] at hE
    by_cases h7 : 1 < b
    · have d7 : decide (1 < b) = true := by simpa using h7
      rw [d7] at hE
      cases q
      all_goals
        go_enter Try.func27, Try.ntmps27
        go_wp2
        go_ret
        exact ⟨retv (congrArg Value.bool (by rw [hE.out]; rfl)), rfl⟩
    · have d7 : decide (1 < b) = false := by simpa using h7
      rw [d7] at hE
      go_enter Try.func27, Try.ntmps27
      go_wp2
      go_ret
      exact ⟨retv (congrArg Value.bool (by rw [hE.out]; rfl)), rfl⟩
end Go.Proofs.Ytmddcmfleipjjaa.Sp

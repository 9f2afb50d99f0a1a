/- wire: the law's awake, long, put. -/
import Derived.Test.YtfpocddpnoighaaWrC
import Derived.Test.YtfpocddpnoighaaO
namespace Go.Proofs.Ytfpocddpnoighaa.Wr
open Go.RowKit Go.Proofs.Ytfpocddpnoighaa.L Go.Proofs.Ytfpocddpnoighaa.O Go.Proofs.Ytfpocddpnoighaa.A Go.Proofs.Ytfpocddpnoighaa.S Go.Proofs.Ytfpocddpnoighaa.T
set_option linter.unusedVariables false
set_option linter.unusedSimpArgs false

theorem len2 : ([] ++ numsB [1, -1]).length + 2 + (ByteArray.mk #[97, 98]).size ≤ 140737488355328 := by
  have : (ByteArray.mk #[97, 98]).size = 2 := rfl
  rw [this, List.nil_append, len_nums]
  simp
theorem len3 : ([] ++ numsB [1, -1] ++ textB ⟨#[97, 98]⟩).length ≤ 9223372036854775807 := by
  have : textB ⟨#[97, 98]⟩ = [0, 2, 97, 98] := by kernel_rfl
  rw [this, List.nil_append, List.length_append, len_nums]
  simp
set_option maxHeartbeats 400000 in
set_option maxRecDepth 100000 in
theorem awake_any (w : World) : Calls Try.prog 19 #[] w fun e w' => e = .returned (.bool true) ∧ Below w.heap.size w w' := by
  have H0 := Lib.hid (wrs_new w 30 (.inl rfl))
  obtain ⟨b, hb⟩ : ∃ b, Hid (w.heap.size = b) := ⟨_, Lib.hid rfl⟩
  obtain ⟨w1, hw1⟩ : ∃ w1, Hid (w.alloc (.cells #[.pointer none, .slice none 0 0, .bool false] 30) = w1) := ⟨_, Lib.hid rfl⟩
  rw [hb.out, hw1.out] at H0
  go_enter Try.func19, Try.ntmps19
  go_wp2_with fail
  rw [hw1.out, hb.out, show b + 1 = w1.heap.size by rw [← hw1.out, ← hb.out]; simp]
  refine (acc2 H0.out (below_alloc _ _) (fun r1 h1 hlt => nums_any b r1 [] false [1, -1] _ 2 2 _ h1 (rd_ints 2 (heap_alloc_new _ _) (by simp) rfl (by decide)) (fun _ o ho hm => by injection ho with ho; subst ho; exact absurd (hlt _ hm) (Nat.lt_irrefl _)) (by simp))).mono ?_
  rintro e w2 ⟨rfl, h2⟩
  have HC := Lib.hid (acc h2 (fun r1 h1 => text_any b r1 _ false ⟨#[97, 98]⟩ w2 h1 len2))
  clear h2
  go_wp2_with fail
  refine HC.out.mono ?_
  rintro e w3 ⟨rfl, h3⟩
  have hs : Hid (saysB ([] ++ numsB [1, -1] ++ textB ⟨#[97, 98]⟩) (false || !okN ((ByteArray.mk #[97, 98]).size : Nat)) = ⟨#[0, 0, 0, 0, 0, 0, 0, 1, 255, 255, 255, 255, 255, 255, 255, 255, 0, 2, 97, 98]⟩) := Lib.hid (by kernel_rfl)
  obtain ⟨r3, h31, h32⟩ := h3.out
  have hk3 := h3.keep
  have HC2 := Lib.hid (string_any b r3 _ _ w3 h31.f len3)
  rw [hs.out] at HC2
  clear h3 hs
  go_wp2_with fail
  refine HC2.out.mono ?_
  rintro e w4 ⟨rfl, h4, hk4⟩
  have hbad : Hid ((false || !okN ((ByteArray.mk #[97, 98]).size : Nat)) = false) := Lib.hid (by kernel_rfl)
  rw [hbad.out] at h4
  go_wp2_with fail
  refine (bad_any b r3 _ false w4 h4).mono ?_
  rintro e w5 ⟨rfl, rfl⟩
  go_wp2
  go_ret
  refine ⟨rfl, ?_⟩
  exact (hk3.below (Nat.le_refl _) (by simp)).trans (hk4.below hk3.size (fun x hx => by
    have := h32 x (by simpa using hx)
    simpa using this))
end Go.Proofs.Ytfpocddpnoighaa.Wr

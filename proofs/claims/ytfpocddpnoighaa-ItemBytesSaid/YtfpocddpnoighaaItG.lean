/- item: the document's RightItems; nodes; the document's Order. -/
import Derived.Test.YtfpocddpnoighaaItF
namespace Go.Proofs.Ytfpocddpnoighaa.It
open Go.RowKit Go.Proofs.Ytfpocddpnoighaa.L Go.Proofs.Ytfpocddpnoighaa.O Go.Proofs.Ytfpocddpnoighaa.A Go.Proofs.Ytfpocddpnoighaa.R Go.Proofs.Ytfpocddpnoighaa.S Go.Proofs.Ytfpocddpnoighaa.T Go.Proofs.Ytfpocddpnoighaa.E Go.Proofs.Ytfpocddpnoighaa.Wr Go.Proofs.Ytfpocddpnoighaa.F
set_option linter.unusedVariables false
set_option linter.unusedSimpArgs false

/-! ### the document's order -/
set_option maxHeartbeats 4000000 in
set_option maxRecDepth 100000 in
theorem order_ref (a1 a2 a3 b1 b2 b3 : Int) (w : World) (q : Int) (hq' : ordV a1 a2 a3 b1 b2 b3 = q) : Calls Try.prog 33 #[.agg #[.int .i64 a1, .int .i64 a2, .int .i64 a3], .agg #[.int .i64 b1, .int .i64 b2, .int .i64 b3]] w fun e w' => e = .returned (.int .i64 q) ∧ Below w.heap.size w w' := by
  have HQ := Lib.hid hq'
  clear hq'
  obtain ⟨g, hg⟩ : ∃ g, Hid (w.heap.size + 1 + 1 = g) := ⟨_, Lib.hid rfl⟩
  obtain ⟨W0, hW0⟩ : ∃ W0, Hid ((((w.alloc (.cells #[.int .i64 a1, .int .i64 a2, .int .i64 a3] 51)).alloc (.cells #[.int .i64 b1, .int .i64 b2, .int .i64 b3] 51)).alloc (.cells #[.int .i64 a1, .int .i64 a2, .int .i64 a3] 3)).alloc (.cells #[.int .i64 b1, .int .i64 b2, .int .i64 b3] 3) = W0) := ⟨_, Lib.hid rfl⟩
  have hb0 : Hid (Below w.heap.size w W0) := Lib.hid (by rw [← hW0.out]; exact below2 (below2 (below2 (below_alloc _ _) (below_alloc _ _)) (below_alloc _ _)) (below_alloc _ _))
  have hA : Hid (W0.heap[g]? = some (.cells #[.int .i64 a1, .int .i64 a2, .int .i64 a3] 3 (0, 0)) ∧ W0.heap[g + 1]? = some (.cells #[.int .i64 b1, .int .i64 b2, .int .i64 b3] 3 (0, 0))) := Lib.hid (by
    rw [← hW0.out, ← hg.out]
    constructor
    · rw [heap_alloc_old _ _ (by simp)]
      have := heap_alloc_new ((w.alloc (.cells #[.int .i64 a1, .int .i64 a2, .int .i64 a3] 51)).alloc (.cells #[.int .i64 b1, .int .i64 b2, .int .i64 b3] 51)) (.cells #[.int .i64 a1, .int .i64 a2, .int .i64 a3] 3)
      rw [World.size_alloc, World.size_alloc] at this; exact this
    · have := heap_alloc_new (((w.alloc (.cells #[.int .i64 a1, .int .i64 a2, .int .i64 a3] 51)).alloc (.cells #[.int .i64 b1, .int .i64 b2, .int .i64 b3] 51)).alloc (.cells #[.int .i64 a1, .int .i64 a2, .int .i64 a3] 3)) (.cells #[.int .i64 b1, .int .i64 b2, .int .i64 b3] 3)
      rw [World.size_alloc, World.size_alloc, World.size_alloc] at this; exact this)
  have hspec := Lib.hid (ord_spec a1 a2 a3 b1 b2 b3)
  rw [HQ.out] at hspec
  go_enter Try.func33, Try.ntmps33
  go_wp2_with fail
  rw [hW0.out, hg.out]
  go_loopw [7] (fun i wr => ∃ k : Nat, k ≤ 3 ∧ i = .int .i64 k ∧ Below W0.heap.size W0 wr ∧ Hid ((0 < k → a1 = b1) ∧ (1 < k → a2 = b2) ∧ (2 < k → a3 = b3))) (fun i _ => 3 - (intOf i).toNat)
  case atStart => exact ⟨0, by omega, rfl, Below.refl _ _, Lib.hid ⟨fun h => absurd h (by omega), fun h => absurd h (by omega), fun h => absurd h (by omega)⟩⟩
  case round =>
    obtain ⟨k, hk, rfl, hb, heq⟩ := hrel
    by_cases hk3 : k < 3
    · have hx : ∃ x y : Int, wr.cell? ⟨g, k, none⟩ = some (.int .i64 x) ∧ wr.cell? ⟨g + 1, k, none⟩ = some (.int .i64 y) ∧ (x < y → q = -1) ∧ (y < x → q = 1) ∧ (x = y → ((0 < k + 1 → a1 = b1) ∧ (1 < k + 1 → a2 = b2) ∧ (2 < k + 1 → a3 = b3))) := by
        obtain ⟨u0, u1, u2⟩ := td_cells (keep_block (.of_below (S := []) hb) hA.out.1 (by simp))
        obtain ⟨v0, v1, v2⟩ := td_cells (keep_block (.of_below (S := []) hb) hA.out.2 (by simp))
        have hs := hspec.out
        have he := heq.out
        rcases (by omega : k = 0 ∨ k = 1 ∨ k = 2) with rfl | rfl | rfl
        · exact ⟨a1, b1, u0, v0, by omega, by omega, by omega⟩
        · exact ⟨a2, b2, u1, v1, by omega, by omega, by omega⟩
        · exact ⟨a3, b3, u2, v2, by omega, by omega, by omega⟩
      obtain ⟨x, y, cx, cy, h1, h2, h3⟩ := hx
      have H1 := Lib.hid h1
      have H2 := Lib.hid h2
      have H3 := Lib.hid h3
      clear h1 h2 h3
      by_cases hxy : x < y
      · have e := Lib.hid (H1.out hxy)
        have d1 : decide (x < y) = true := by simpa using hxy
        clear hxy
        go_wp2
        go_quiet (fail)
        go_wp2
        go_ret
        exact ⟨reti e.out.symm, below2 hb0.out (below2 hb (below_drewN _ _))⟩
      · have d1 : decide (x < y) = false := by simpa using hxy
        by_cases hyx : y < x
        · have e := Lib.hid (H2.out hyx)
          have d2 : decide (y < x) = true := by simpa using hyx
          clear hxy hyx
          go_wp2
          go_quiet (fail)
          go_wp2
          obtain ⟨Wq, hWq⟩ : ∃ Wq, Hid (wr.drewN nq = Wq) := ⟨_, Lib.hid rfl⟩
          rw [hWq.out]
          have hbq : Below wr.heap.size wr Wq := by rw [← hWq.out]; exact below_drewN _ _
          have cx2 := cell_below hbq cx
          have cy2 := cell_below hbq cy
          have HBQ := Lib.hid (below2 hb hbq)
          clear cx cy hbq
          go_quiet (fail)
          go_wp2
          go_ret
          exact ⟨reti e.out.symm, below2 hb0.out (below2 HBQ.out (below_drewN _ _))⟩
        · have e := Lib.hid (H3.out (by omega))
          have d2 : decide (y < x) = false := by simpa using hyx
          clear hxy hyx
          go_wp2
          go_quiet (fail)
          go_wp2
          obtain ⟨Wq, hWq⟩ : ∃ Wq, Hid (wr.drewN nq = Wq) := ⟨_, Lib.hid rfl⟩
          rw [hWq.out]
          have hbq : Below wr.heap.size wr Wq := by rw [← hWq.out]; exact below_drewN _ _
          have cx2 := cell_below hbq cx
          have cy2 := cell_below hbq cy
          have HBQ := Lib.hid (below2 hb hbq)
          clear cx cy hbq
          go_quiet (fail)
          go_wp2
          go_roundw
          case rel => exact ⟨k + 1, by omega, by go_num, below2 HBQ.out (below_drewN _ _), e⟩
          case measure => simp [intOf]; omega
    · have e : Hid (q = 0) := Lib.hid (by have h1 := hspec.out; have h2 := heq.out; omega)
      have hk3' : k = 3 := by omega
      subst hk3'
      go_wp2
      go_ret
      exact ⟨reti e.out.symm, below2 hb0.out hb⟩
end Go.Proofs.Ytfpocddpnoighaa.It

/- ItemOrders: the walk. -/
import Derived.Test.YtfpocddpnoighaaItC
namespace Go.Proofs.Ytfpocddpnoighaa.It
open Go.RowKit Go.Proofs.Ytfpocddpnoighaa.L Go.Proofs.Ytfpocddpnoighaa.O Go.Proofs.Ytfpocddpnoighaa.A Go.Proofs.Ytfpocddpnoighaa.R Go.Proofs.Ytfpocddpnoighaa.S Go.Proofs.Ytfpocddpnoighaa.T Go.Proofs.Ytfpocddpnoighaa.E Go.Proofs.Ytfpocddpnoighaa.Wr
set_option linter.unusedVariables false
set_option linter.unusedSimpArgs false

structure Td where
  a : Int
  b : Int
  c : Int
def encTd (t : Td) : List Value := [.int .i64 t.a, .int .i64 t.b, .int .i64 t.c]
def goodTd (t : Td) : Prop := (-9223372036854775808 ≤ t.a ∧ t.a ≤ 9223372036854775807) ∧ (-9223372036854775808 ≤ t.b ∧ t.b ≤ 9223372036854775807) ∧ (-9223372036854775808 ≤ t.c ∧ t.c ≤ 9223372036854775807)
set_option maxRecDepth 100000 in
theorem opens_td (W : World) : Opens Try.prog W 51 encTd goodTd :=
  Opens.as (opens_struct (w := W) Try.underlying51 (by kernel_rfl) (opens_fc (off' := 1) rfl (by kernel_rfl) (opens_int Try.underlying3) (opens_fc (off' := 2) rfl (by kernel_rfl) (opens_int Try.underlying3) (opens_fc (off' := 3) rfl (by kernel_rfl) (opens_int Try.underlying3) (opens_f0 3)))))
    encTd goodTd (fun x => ⟨x.1, x.2.1, x.2.2.1⟩) (fun _ => rfl) (fun _ h => ⟨i64_range h.1, i64_range h.2.1, i64_range h.2.2.1⟩)
theorem cmp_cases (a b : Int) : (a < b ∧ cmpV a b = -1) ∨ (a = b ∧ cmpV a b = 0) ∨ (b < a ∧ cmpV a b = 1) := by
  unfold cmpV
  by_cases h1 : a < b
  · simp [h1]
  · by_cases h2 : b < a
    · simp [h1, h2]
    · have : a = b := by omega
      simp [this]
theorem ord_spec (a1 a2 a3 b1 b2 b3 : Int) : (ordV a1 a2 a3 b1 b2 b3 = -1 ∧ (a1 < b1 ∨ a1 = b1 ∧ (a2 < b2 ∨ a2 = b2 ∧ a3 < b3))) ∨ (ordV a1 a2 a3 b1 b2 b3 = 0 ∧ a1 = b1 ∧ a2 = b2 ∧ a3 = b3) ∨ (ordV a1 a2 a3 b1 b2 b3 = 1 ∧ (b1 < a1 ∨ a1 = b1 ∧ (b2 < a2 ∨ a2 = b2 ∧ b3 < a3))) := by
  unfold ordV
  rcases cmp_cases a1 b1 with ⟨h1, e1⟩ | ⟨h1, e1⟩ | ⟨h1, e1⟩ <;> rcases cmp_cases a2 b2 with ⟨h2, e2⟩ | ⟨h2, e2⟩ | ⟨h2, e2⟩ <;> rcases cmp_cases a3 b3 with ⟨h3, e3⟩ | ⟨h3, e3⟩ | ⟨h3, e3⟩ <;>
    simp only [e1, e2, e3, orV] <;> simp <;> omega
theorem ord_anti (a1 a2 a3 b1 b2 b3 : Int) : ordV b1 b2 b3 a1 a2 a3 = -ordV a1 a2 a3 b1 b2 b3 := by
  have h1 := ord_spec a1 a2 a3 b1 b2 b3
  have h2 := ord_spec b1 b2 b3 a1 a2 a3
  omega
theorem ord_eq (a1 a2 a3 b1 b2 b3 : Int) : (ordV a1 a2 a3 b1 b2 b3 == 0) = tidB a1 a2 a3 b1 b2 b3 := by
  have h1 := ord_spec a1 a2 a3 b1 b2 b3
  unfold tidB
  rw [Bool.eq_iff_iff]
  simp
  omega
theorem ord_trans (a1 a2 a3 b1 b2 b3 c1 c2 c3 : Int) (h1 : ordV a1 a2 a3 b1 b2 b3 ≤ 0) (h2 : ordV b1 b2 b3 c1 c2 c3 ≤ 0) : ordV a1 a2 a3 c1 c2 c3 ≤ 0 := by
  have k1 := ord_spec a1 a2 a3 b1 b2 b3
  have k2 := ord_spec b1 b2 b3 c1 c2 c3
  have k3 := ord_spec a1 a2 a3 c1 c2 c3
  omega
theorem ord_range (a1 a2 a3 b1 b2 b3 : Int) : -1 ≤ ordV a1 a2 a3 b1 b2 b3 ∧ ordV a1 a2 a3 b1 b2 b3 ≤ 1 := by
  have k1 := ord_spec a1 a2 a3 b1 b2 b3
  omega
theorem td_cells {W : World} {g : Nat} {x y z : Int} {T : TypeId} (h : W.heap[g]? = some (.cells #[.int .i64 x, .int .i64 y, .int .i64 z] T (0, 0))) : W.cell? ⟨g, 0, none⟩ = some (.int .i64 x) ∧ W.cell? ⟨g, 1, none⟩ = some (.int .i64 y) ∧ W.cell? ⟨g, 2, none⟩ = some (.int .i64 z) :=
  ⟨by rw [cell_of_row _ _ _ _ _ _ h]; rfl, by rw [cell_of_row _ _ _ _ _ _ h]; rfl, by rw [cell_of_row _ _ _ _ _ _ h]; rfl⟩
set_option maxHeartbeats 4000000 in
set_option maxRecDepth 100000 in
theorem orders_walk (w : World) (a1 a2 a3 b1 b2 b3 c1 c2 c3 : Int) : Calls Try.prog 8 #[.agg #[.int .i64 a1, .int .i64 a2, .int .i64 a3], .agg #[.int .i64 b1, .int .i64 b2, .int .i64 b3], .agg #[.int .i64 c1, .int .i64 c2, .int .i64 c3]] w fun e w' => e = .returned (.bool true) ∧ Below w.heap.size w w' := by
  obtain ⟨n, hn⟩ : ∃ n, Hid (ordV a1 a2 a3 b1 b2 b3 = n) := ⟨_, Lib.hid rfl⟩
  obtain ⟨m, hm⟩ : ∃ m, Hid (ordV b1 b2 b3 c1 c2 c3 = m) := ⟨_, Lib.hid rfl⟩
  obtain ⟨l, hl⟩ : ∃ l, Hid (ordV a1 a2 a3 c1 c2 c3 = l) := ⟨_, Lib.hid rfl⟩
  have hn2 : Hid (ordV b1 b2 b3 a1 a2 a3 = -n) := Lib.hid (by rw [ord_anti, hn.out])
  have heqn : Hid ((n == 0) = tidB a1 a2 a3 b1 b2 b3) := Lib.hid (by rw [← hn.out]; exact ord_eq _ _ _ _ _ _)
  have htr : Hid (n ≤ 0 → m ≤ 0 → l ≤ 0) := Lib.hid (fun h1 h2 => by rw [← hl.out]; exact ord_trans _ _ _ _ _ _ _ _ _ (by rw [hn.out]; exact h1) (by rw [hm.out]; exact h2))
  have hr : -1 ≤ n ∧ n ≤ 1 := by rw [← hn.out]; exact ord_range _ _ _ _ _ _
  obtain ⟨hr1, hr2⟩ := hr
  have htq : ∀ w, (Op.equalIn 10000 51 (.agg #[.int .i64 a1, .int .i64 a2, .int .i64 a3]) (.agg #[.int .i64 b1, .int .i64 b2, .int .i64 b3])).run Try.prog w = .ok (n == 0) w := fun w => by rw [tid_eq, heqn.out]
  have htg := tid_guard
  obtain ⟨g, hg⟩ : ∃ g, Hid (w.heap.size = g) := ⟨_, Lib.hid rfl⟩
  obtain ⟨W0, hW0⟩ : ∃ W0, Hid (((w.alloc (.cells #[.int .i64 a1, .int .i64 a2, .int .i64 a3] 51)).alloc (.cells #[.int .i64 b1, .int .i64 b2, .int .i64 b3] 51)).alloc (.cells #[.int .i64 c1, .int .i64 c2, .int .i64 c3] 51) = W0) := ⟨_, Lib.hid rfl⟩
  have hb0 : Hid (Below w.heap.size w W0) := Lib.hid (by rw [← hW0.out]; exact below2 (below2 (below_alloc _ _) (below_alloc _ _)) (below_alloc _ _))
  have hA : Hid (∀ W, Below W0.heap.size W0 W → W.heap[g]? = some (.cells #[.int .i64 a1, .int .i64 a2, .int .i64 a3] 51 (0, 0)) ∧ W.heap[g + 1]? = some (.cells #[.int .i64 b1, .int .i64 b2, .int .i64 b3] 51 (0, 0)) ∧ W.heap[g + 1 + 1]? = some (.cells #[.int .i64 c1, .int .i64 c2, .int .i64 c3] 51 (0, 0))) := Lib.hid (by
    intro W hb
    rw [← hg.out]
    have e1 : W0.heap[w.heap.size]? = some (.cells #[.int .i64 a1, .int .i64 a2, .int .i64 a3] 51 (0, 0)) := by rw [← hW0.out, heap_alloc_old _ _ (by simp; omega), heap_alloc_old _ _ (by simp)]; exact heap_alloc_new _ _
    have e2 : W0.heap[w.heap.size + 1]? = some (.cells #[.int .i64 b1, .int .i64 b2, .int .i64 b3] 51 (0, 0)) := by
      rw [← hW0.out, heap_alloc_old _ _ (by simp)]
      have := heap_alloc_new (w.alloc (.cells #[.int .i64 a1, .int .i64 a2, .int .i64 a3] 51)) (.cells #[.int .i64 b1, .int .i64 b2, .int .i64 b3] 51)
      rw [World.size_alloc] at this; exact this
    have e3 : W0.heap[w.heap.size + 1 + 1]? = some (.cells #[.int .i64 c1, .int .i64 c2, .int .i64 c3] 51 (0, 0)) := by
      rw [← hW0.out]
      have := heap_alloc_new ((w.alloc (.cells #[.int .i64 a1, .int .i64 a2, .int .i64 a3] 51)).alloc (.cells #[.int .i64 b1, .int .i64 b2, .int .i64 b3] 51)) (.cells #[.int .i64 c1, .int .i64 c2, .int .i64 c3] 51)
      rw [World.size_alloc, World.size_alloc] at this; exact this
    exact ⟨keep_block (.of_below (S := []) hb) e1 (by simp), keep_block (.of_below (S := []) hb) e2 (by simp), keep_block (.of_below (S := []) hb) e3 (by simp)⟩)
  go_enter Try.func8, Try.ntmps8
  go_wp2_with fail
  rw [hW0.out, hg.out]
  refine (awake_any W0).mono ?_
  rintro e w1 ⟨rfl, hb1⟩
  have HB1 := Lib.hid hb1
  obtain ⟨q1, q2, q3⟩ := hA.out w1 hb1
  obtain ⟨x1, x2, x3⟩ := td_cells q1
  obtain ⟨y1, y2, y3⟩ := td_cells q2
  clear q1 q2 q3 hb1
  go_wp2_with fail
  refine (order_any a1 a2 a3 b1 b2 b3 w1 n hn.out).mono ?_
  rintro e w2 ⟨rfl, hb2⟩
  have HB2 := Lib.hid (below2 HB1.out hb2)
  obtain ⟨q1, q2, q3⟩ := hA.out w2 HB2.out
  clear x1 x2 x3 y1 y2 y3 hb2
  obtain ⟨x1, x2, x3⟩ := td_cells q1
  obtain ⟨y1, y2, y3⟩ := td_cells q2
  clear q1 q2 q3
  go_wp2_with fail
  refine (order_any b1 b2 b3 a1 a2 a3 w2 (-n) hn2.out).mono ?_
  rintro e w3 ⟨rfl, hb3⟩
  have HB3 := Lib.hid (below2 HB2.out hb3)
  obtain ⟨q1, q2, q3⟩ := hA.out w3 HB3.out
  clear x1 x2 x3 y1 y2 y3 hb3
  obtain ⟨x1, x2, x3⟩ := td_cells q1
  obtain ⟨y1, y2, y3⟩ := td_cells q2
  obtain ⟨z1, z2, z3⟩ := td_cells q3
  clear q1 q2 q3
  by_cases hpos : 0 < n
  · go_wp2
    go_ret
    exact ⟨rfl, below2 hb0.out HB3.out⟩
  · go_wp2_with fail
    refine (order_any b1 b2 b3 c1 c2 c3 w3 m hm.out).mono ?_
    rintro e w4 ⟨rfl, hb4⟩
    have HB4 := Lib.hid (below2 HB3.out hb4)
    obtain ⟨q1, q2, q3⟩ := hA.out w4 HB4.out
    clear x1 x2 x3 y1 y2 y3 z1 z2 z3 hb4
    obtain ⟨x1, x2, x3⟩ := td_cells q1
    obtain ⟨z1, z2, z3⟩ := td_cells q3
    clear q1 q2 q3
    by_cases hm0 : 0 < m
    · go_wp2
      go_ret
      exact ⟨rfl, below2 hb0.out HB4.out⟩
    · have hl0 : l ≤ 0 := htr.out (by omega) (by omega)
      go_wp2_with fail
      refine (order_any a1 a2 a3 c1 c2 c3 w4 l hl.out).mono ?_
      rintro e w5 ⟨rfl, hb5⟩
      go_wp2
      go_ret
      exact ⟨rfl, below2 hb0.out (below2 HB4.out hb5)⟩
theorem orders_row (w : World) (a b c : Td) (ha : goodTd a) (hb : goodTd b) (hc : goodTd c) :
    Calls Try.prog 8 #[.agg (encTd a).toArray, .agg (encTd b).toArray, .agg (encTd c).toArray] w fun e w' => e = .returned (.bool true) ∧ Below w.heap.size w w' :=
  orders_walk w a.a a.b a.c b.a b.b b.c c.a c.b c.c
end Go.Proofs.Ytfpocddpnoighaa.It

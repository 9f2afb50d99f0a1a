/- item: names of transactions, as they are put, read, compared. -/
import Derived.Test.YtfpocddpnoighaaWrI
import Derived.Test.YtfpocddpnoighaaWrC
import Derived.Test.YtfpocddpnoighaaD
import Derived.Test.YtfpocddpnoighaaE
namespace Go.Proofs.Ytfpocddpnoighaa.It
open Go.RowKit Go.Proofs.Ytfpocddpnoighaa.L Go.Proofs.Ytfpocddpnoighaa.O Go.Proofs.Ytfpocddpnoighaa.A Go.Proofs.Ytfpocddpnoighaa.R Go.Proofs.Ytfpocddpnoighaa.S Go.Proofs.Ytfpocddpnoighaa.T Go.Proofs.Ytfpocddpnoighaa.E Go.Proofs.Ytfpocddpnoighaa.Wr
set_option linter.unusedVariables false
set_option linter.unusedSimpArgs false

/-! ### cmp -/
def cmpV (a b : Int) : Int := if a < b then -1 else if b < a then 1 else 0
set_option maxHeartbeats 1000000 in
theorem compare_any (a b : Int) (w : World) : Calls Try.prog 90 #[.int .i64 a, .int .i64 b] w fun e w' => e = .returned (.int .i64 (cmpV a b)) ∧ w = w' := by
  obtain ⟨r, hr⟩ : ∃ r, Hid (cmpV a b = r) := ⟨_, Lib.hid rfl⟩
  rw [hr.out]
  by_cases h1 : a < b
  · have er : Hid (r = -1) := Lib.hid (by rw [← hr.out]; simp [cmpV, h1])
    go_enter Try.func90, Try.ntmps90
    go_wp2
    go_ret
    exact ⟨reti er.out.symm, rfl⟩
  · by_cases h2 : b < a
    · have er : Hid (r = 1) := Lib.hid (by rw [← hr.out]; simp [cmpV, h1, h2])
      go_enter Try.func90, Try.ntmps90
      go_wp2
      go_ret
      exact ⟨reti er.out.symm, rfl⟩
    · have er : Hid (r = 0) := Lib.hid (by rw [← hr.out]; simp [cmpV, h1, h2])
      go_enter Try.func90, Try.ntmps90
      go_wp2
      go_ret
      exact ⟨reti er.out.symm, rfl⟩
def orV : List Int → Int
  | [] => 0
  | x :: l => if x = 0 then orV l else x
theorem orV_at : ∀ (l : List Int) (k : Nat) (h : k < l.length), (∀ j, (hj : j < l.length) → j < k → l[j] = 0) → l[k] ≠ 0 → orV l = l[k]
  | x :: l, 0, _, _, hn => by simp at hn; simp [orV, hn]
  | x :: l, k + 1, h, hz, hn => by
    have h0 := hz 0 (by simp) (by omega)
    simp at h0
    have ih := orV_at l k (by simpa using h) (fun j hj hjk => by have := hz (j + 1) (by simpa using hj) (by omega); simpa using this) (by simpa using hn)
    simp [orV, h0, ih]
theorem orV_none : ∀ (l : List Int), (∀ j, (hj : j < l.length) → l[j] = 0) → orV l = 0
  | [], _ => rfl
  | x :: l, hz => by
    have h0 := hz 0 (by simp)
    simp at h0
    have ih := orV_none l fun j hj => by have := hz (j + 1) (by simpa using hj); simpa using this
    simp [orV, h0, ih]
set_option maxHeartbeats 1000000 in
theorem or_any (A : Option Addr) (n c : Nat) (xs : List Int) (w : World) (hr : Rd w A n (xs.map (Value.int .i64))) (q : Int) (hq : orV xs = q) :
    Calls Try.prog 89 #[.slice A n c] w fun e w' => e = .returned (.int .i64 q) ∧ w = w' := by
  have hln := hr.2.1
  have HR := Lib.hid hr
  have HL : Hid (xs.length = n) := Lib.hid (by simpa using hr.len)
  have HQ := Lib.hid hq
  clear hr hq
  go_enter Try.func89, Try.ntmps89
  go_wp2
  go_loopw [8] (fun i wr => ∃ k : Nat, k ≤ n ∧ i = .int .i64 k ∧ wr = w ∧ Hid (∀ j, (hj : j < xs.length) → j < k → xs[j] = 0)) (fun i _ => n - (intOf i).toNat)
  case atStart => exact ⟨0, by omega, rfl, rfl, Lib.hid fun j _ h => absurd h (by omega)⟩
  case round =>
    obtain ⟨k, hk, rfl, rfl, hz⟩ := hrel
    by_cases hlt : k < n
    · obtain ⟨ab, ao, hAe, hc⟩ := HR.out.2.2 (by omega)
      subst hAe
      have hkl : k < xs.length := by have := HL.out; omega
      obtain ⟨x, hx⟩ : ∃ x, Hid (x = xs[k]) := ⟨_, Lib.hid rfl⟩
      have c0 := hc k hlt
      rw [List.getElem?_map, List.getElem?_eq_getElem hkl, ← hx.out] at c0
      simp only [Option.map_some] at c0
      clear hc
      by_cases hx0 : x = 0
      · have hstep : Hid (∀ j, (hj : j < xs.length) → j < k + 1 → xs[j] = 0) := Lib.hid fun j hj hjk => by
          by_cases e : j = k
          · subst e; rw [← hx.out]; exact hx0
          · exact hz.out j hj (by omega)
        subst hx0
        go_wp2
        go_roundw
        case rel => exact ⟨k + 1, by omega, by go_num, by first | rfl | trivial, hstep⟩
        case measure => simp [intOf]; omega
      · have er : Hid (x = q) := Lib.hid (by rw [← HQ.out, orV_at xs k hkl hz.out (by rw [← hx.out]; exact hx0), hx.out])
        go_wp2
        go_ret
        exact ⟨reti er.out, rfl⟩
    · have er : Hid (q = 0) := Lib.hid (by rw [← HQ.out]; exact orV_none xs fun j hj => hz.out j hj (by have := HL.out; omega))
      go_wp2
      go_ret
      exact ⟨reti er.out.symm, rfl⟩
/-- the order of names. -/
def ordV (a1 a2 a3 b1 b2 b3 : Int) : Int := orV [cmpV a1 b1, cmpV a2 b2, cmpV a3 b3]
theorem tid_size : (Try.prog.info? 51).map (·.size) = some 3 := by kernel_rfl
set_option maxHeartbeats 4000000 in
set_option maxRecDepth 100000 in
theorem order_any (a1 a2 a3 b1 b2 b3 : Int) (w : World) (q : Int) (hq' : ordV a1 a2 a3 b1 b2 b3 = q) : Calls Try.prog 32 #[.agg #[.int .i64 a1, .int .i64 a2, .int .i64 a3], .agg #[.int .i64 b1, .int .i64 b2, .int .i64 b3]] w fun e w' => e = .returned (.int .i64 q) ∧ Below w.heap.size w w' := by
  have HQ := Lib.hid hq'
  clear hq'
  obtain ⟨ga, hga⟩ : ∃ g, Hid (w.heap.size = g) := ⟨_, Lib.hid rfl⟩
  obtain ⟨gb, hgb⟩ : ∃ g, Hid (w.heap.size + 1 = g) := ⟨_, Lib.hid rfl⟩
  obtain ⟨W0, hW0⟩ : ∃ W0, Hid ((w.alloc (.cells #[.int .i64 a1, .int .i64 a2, .int .i64 a3] 51)).alloc (.cells #[.int .i64 b1, .int .i64 b2, .int .i64 b3] 51) = W0) := ⟨_, Lib.hid rfl⟩
  have hS0 : Below w.heap.size w W0.drew ∧ W0.drew.heap[ga]? = some (.cells #[.int .i64 a1, .int .i64 a2, .int .i64 a3] 51 (0, 0)) ∧ W0.drew.heap[gb]? = some (.cells #[.int .i64 b1, .int .i64 b2, .int .i64 b3] 51 (0, 0)) := by
    rw [← hW0.out, ← hga.out, ← hgb.out]
    refine ⟨(below2 (below_alloc _ _) (below_alloc _ _)).drew, ?_, ?_⟩
    · show (World.alloc _ _).heap[_]? = _
      rw [heap_alloc_old _ _ (by simp)]; exact heap_alloc_new _ _
    · have := heap_alloc_new (w.alloc (.cells #[.int .i64 a1, .int .i64 a2, .int .i64 a3] 51)) (.cells #[.int .i64 b1, .int .i64 b2, .int .i64 b3] 51)
      rw [World.size_alloc] at this
      exact this
  go_enter Try.func32, Try.ntmps32
  go_wp2_with fail
  rw [hW0.out, hgb.out, hga.out]
  refine wp_region_one (fun W => Below w.heap.size w W ∧ W.heap[ga]? = some (.cells #[.int .i64 a1, .int .i64 a2, .int .i64 a3] 51 (0, 0)) ∧ W.heap[gb]? = some (.cells #[.int .i64 b1, .int .i64 b2, .int .i64 b3] 51 (0, 0))) (fun u v => Below u.heap.size u v) (fun a i => match i with
      | 0 => (fun v _ => v = .pointer (some ⟨ga, 0, none⟩))
      | 1 => (fun v _ => v = .int .i64 a1)
      | 2 => (fun v _ => v = .pointer (some ⟨gb, 0, none⟩))
      | 3 => (fun v _ => v = .int .i64 b1)
      | 4 => (fun v _ => v = .int .i64 (cmpV a1 b1))
      | 5 => (fun v _ => v = .pointer (some ⟨ga, 1, none⟩))
      | 6 => (fun v _ => v = .int .i64 a2)
      | 7 => (fun v _ => v = .pointer (some ⟨gb, 1, none⟩))
      | 8 => (fun v _ => v = .int .i64 b2)
      | 9 => (fun v _ => v = .int .i64 (cmpV a2 b2))
      | 10 => (fun v _ => v = .pointer (some ⟨ga, 2, none⟩))
      | 11 => (fun v _ => v = .int .i64 a3)
      | 12 => (fun v _ => v = .pointer (some ⟨gb, 2, none⟩))
      | 13 => (fun v _ => v = .int .i64 b3)
      | 14 => (fun v _ => v = .int .i64 (cmpV a3 b3))
      | 15 => (fun v W => ∃ g, v = .slice (some ⟨g, 0, none⟩) 3 3 ∧ g < W.heap.size ∧ W.heap[g]? = some (.cells #[.int .i64 (cmpV a1 b1), .int .i64 (cmpV a2 b2), .int .i64 (cmpV a3 b3)] 3 (0, 0)))
      | 16 => (fun v _ => v = .int .i64 q)
      | 17 => (fun v _ => v = .int .i64 q)
      | _ => (fun _ _ => True)) #[0, 1, 0, 4, 15, 0, 32, 0, 128, 511, 0, 1024, 0, 4096, 16383, 32767, 65535, 131071] #[0, 1, 0, 4, 10, 0, 32, 0, 128, 320, 0, 1024, 0, 4096, 10240, 16912, 32768, 65536] 229375 (by kernel_rfl) 18 rfl (fun m hm => by subst hm; kernel_rfl) (by kernel_rfl) (fun w => Below.refl _ w) (fun u v w h1 h2 => below2 h1 h2) ?_ (hS0) ?_ ?_
  · intro i hi
    rcases (by omega : i = 0 ∨ i = 1 ∨ i = 2 ∨ i = 3 ∨ i = 4 ∨ i = 5 ∨ i = 6 ∨ i = 7 ∨ i = 8 ∨ i = 9 ∨ i = 10 ∨ i = 11 ∨ i = 12 ∨ i = 13 ∨ i = 14 ∨ i = 15 ∨ i = 16 ∨ i = 17) with rfl | rfl | rfl | rfl | rfl | rfl | rfl | rfl | rfl | rfl | rfl | rfl | rfl | rfl | rfl | rfl | rfl | rfl
    · exact fun v w w' h hr => by exact h
    · exact fun v w w' h hr => by exact h
    · exact fun v w w' h hr => by exact h
    · exact fun v w w' h hr => by exact h
    · exact fun v w w' h hr => by exact h
    · exact fun v w w' h hr => by exact h
    · exact fun v w w' h hr => by exact h
    · exact fun v w w' h hr => by exact h
    · exact fun v w w' h hr => by exact h
    · exact fun v w w' h hr => by exact h
    · exact fun v w w' h hr => by exact h
    · exact fun v w w' h hr => by exact h
    · exact fun v w w' h hr => by exact h
    · exact fun v w w' h hr => by exact h
    · exact fun v w w' h hr => by exact h
    · exact fun v w w' h hr => by obtain ⟨g, h1, h2, h3⟩ := h; exact ⟨g, h1, Nat.lt_of_lt_of_le h2 hr.size, (hr.block g h2).trans h3⟩
    · exact fun v w w' h hr => by exact h
    · exact fun v w w' h hr => by exact h
  · intro i hi
    rcases (by omega : i = 0 ∨ i = 1 ∨ i = 2 ∨ i = 3 ∨ i = 4 ∨ i = 5 ∨ i = 6 ∨ i = 7 ∨ i = 8 ∨ i = 9 ∨ i = 10 ∨ i = 11 ∨ i = 12 ∨ i = 13 ∨ i = 14 ∨ i = 15 ∨ i = 16 ∨ i = 17) with rfl | rfl | rfl | rfl | rfl | rfl | rfl | rfl | rfl | rfl | rfl | rfl | rfl | rfl | rfl | rfl | rfl | rfl
    · -- 0: Op.fieldAddr 51 (Operand.tmp 2) 0
      intro l hl vs W hS hR hp
      obtain rfl : l = [] := hl.symm.trans (by kernel_rfl)
      clear hp hl
      refine opgoal (_) (some 5) rfl rfl fun K hK => ?_
      refine Runs.mk ?_
      simp only [putAll]
      go_simp
      refine hK _ _ ?_ hS ((fun w => Below.refl _ w) W) _ rfl rfl
      first | rfl | go_simp | simp
    · -- 1: Op.load 3 (Operand.tmp 5)
      intro l hl vs W hS hR hp
      obtain rfl : l = [(0, 5)] := hl.symm.trans (by kernel_rfl)
      have p0 : vs 0 = _ := hp 0 (by decide) (by decide)
      clear hp hl
      refine opgoal (_) (some 6) rfl rfl fun K hK => ?_
      have fga0 : W.cell? ⟨ga, 0, none⟩ = some (.int .i64 a1) := by rw [cell_of_row _ _ _ _ _ _ hS.2.1]; rfl
      refine Runs.mk ?_
      simp only [putAll]
      go_simp
      refine hK _ _ ?_ hS ((fun w => Below.refl _ w) W) _ rfl rfl
      first | rfl | go_simp | simp
    · -- 2: Op.fieldAddr 51 (Operand.tmp 3) 0
      intro l hl vs W hS hR hp
      obtain rfl : l = [] := hl.symm.trans (by kernel_rfl)
      clear hp hl
      refine opgoal (_) (some 7) rfl rfl fun K hK => ?_
      refine Runs.mk ?_
      simp only [putAll]
      go_simp
      refine hK _ _ ?_ hS ((fun w => Below.refl _ w) W) _ rfl rfl
      first | rfl | go_simp | simp
    · -- 3: Op.load 3 (Operand.tmp 7)
      intro l hl vs W hS hR hp
      obtain rfl : l = [(2, 7)] := hl.symm.trans (by kernel_rfl)
      have p2 : vs 2 = _ := hp 2 (by decide) (by decide)
      clear hp hl
      refine opgoal (_) (some 8) rfl rfl fun K hK => ?_
      have fgb0 : W.cell? ⟨gb, 0, none⟩ = some (.int .i64 b1) := by rw [cell_of_row _ _ _ _ _ _ hS.2.2]; rfl
      refine Runs.mk ?_
      simp only [putAll]
      go_simp
      refine hK _ _ ?_ hS ((fun w => Below.refl _ w) W) _ rfl rfl
      first | rfl | go_simp | simp
    · -- 4: Op.call { callee := Callee.value (Operand.func 90), args := #[Operand.tmp 6, Operand.tmp 8], argTypes := #[3, 3] }
      intro l hl vs W hS hR hp
      obtain rfl : l = [(0, 5), (1, 6), (2, 7), (3, 8)] := hl.symm.trans (by kernel_rfl)
      have p1 : vs 1 = _ := hp 1 (by decide) (by decide)
      have p3 : vs 3 = _ := hp 3 (by decide) (by decide)
      clear hp hl
      refine opgoal (_) (some 9) rfl rfl fun K hK => ?_
      refine Runs.mk ?_
      simp only [putAll]
      go_simp
      refine (compare_any a1 b1 W).mono ?_
      rintro e w' ⟨rfl, rfl⟩
      go_simp
      exact hK _ _ rfl hS (Below.refl _ _) _ rfl rfl
    · -- 5: Op.fieldAddr 51 (Operand.tmp 2) 1
      intro l hl vs W hS hR hp
      obtain rfl : l = [] := hl.symm.trans (by kernel_rfl)
      clear hp hl
      refine opgoal (_) (some 10) rfl rfl fun K hK => ?_
      refine Runs.mk ?_
      simp only [putAll]
      go_simp
      refine hK _ _ ?_ hS ((fun w => Below.refl _ w) W) _ rfl rfl
      first | rfl | go_simp | simp
    · -- 6: Op.load 3 (Operand.tmp 10)
      intro l hl vs W hS hR hp
      obtain rfl : l = [(5, 10)] := hl.symm.trans (by kernel_rfl)
      have p5 : vs 5 = _ := hp 5 (by decide) (by decide)
      clear hp hl
      refine opgoal (_) (some 11) rfl rfl fun K hK => ?_
      have fga1 : W.cell? ⟨ga, 1, none⟩ = some (.int .i64 a2) := by rw [cell_of_row _ _ _ _ _ _ hS.2.1]; rfl
      refine Runs.mk ?_
      simp only [putAll]
      go_simp
      refine hK _ _ ?_ hS ((fun w => Below.refl _ w) W) _ rfl rfl
      first | rfl | go_simp | simp
    · -- 7: Op.fieldAddr 51 (Operand.tmp 3) 1
      intro l hl vs W hS hR hp
      obtain rfl : l = [] := hl.symm.trans (by kernel_rfl)
      clear hp hl
      refine opgoal (_) (some 12) rfl rfl fun K hK => ?_
      refine Runs.mk ?_
      simp only [putAll]
      go_simp
      refine hK _ _ ?_ hS ((fun w => Below.refl _ w) W) _ rfl rfl
      first | rfl | go_simp | simp
    · -- 8: Op.load 3 (Operand.tmp 12)
      intro l hl vs W hS hR hp
      obtain rfl : l = [(7, 12)] := hl.symm.trans (by kernel_rfl)
      have p7 : vs 7 = _ := hp 7 (by decide) (by decide)
      clear hp hl
      refine opgoal (_) (some 13) rfl rfl fun K hK => ?_
      have fgb1 : W.cell? ⟨gb, 1, none⟩ = some (.int .i64 b2) := by rw [cell_of_row _ _ _ _ _ _ hS.2.2]; rfl
      refine Runs.mk ?_
      simp only [putAll]
      go_simp
      refine hK _ _ ?_ hS ((fun w => Below.refl _ w) W) _ rfl rfl
      first | rfl | go_simp | simp
    · -- 9: Op.call { callee := Callee.value (Operand.func 90), args := #[Operand.tmp 11, Operand.tmp 13], argTypes := #[3, 3] }
      intro l hl vs W hS hR hp
      obtain rfl : l = [(0, 5), (1, 6), (2, 7), (3, 8), (4, 9), (5, 10), (6, 11), (7, 12), (8, 13)] := hl.symm.trans (by kernel_rfl)
      have p6 : vs 6 = _ := hp 6 (by decide) (by decide)
      have p8 : vs 8 = _ := hp 8 (by decide) (by decide)
      clear hp hl
      refine opgoal (_) (some 14) rfl rfl fun K hK => ?_
      refine Runs.mk ?_
      simp only [putAll]
      go_simp
      refine (compare_any a2 b2 W).mono ?_
      rintro e w' ⟨rfl, rfl⟩
      go_simp
      exact hK _ _ rfl hS (Below.refl _ _) _ rfl rfl
    · -- 10: Op.fieldAddr 51 (Operand.tmp 2) 2
      intro l hl vs W hS hR hp
      obtain rfl : l = [] := hl.symm.trans (by kernel_rfl)
      clear hp hl
      refine opgoal (_) (some 15) rfl rfl fun K hK => ?_
      refine Runs.mk ?_
      simp only [putAll]
      go_simp
      refine hK _ _ ?_ hS ((fun w => Below.refl _ w) W) _ rfl rfl
      first | rfl | go_simp | simp
    · -- 11: Op.load 3 (Operand.tmp 15)
      intro l hl vs W hS hR hp
      obtain rfl : l = [(10, 15)] := hl.symm.trans (by kernel_rfl)
      have p10 : vs 10 = _ := hp 10 (by decide) (by decide)
      clear hp hl
      refine opgoal (_) (some 16) rfl rfl fun K hK => ?_
      have fga2 : W.cell? ⟨ga, 2, none⟩ = some (.int .i64 a3) := by rw [cell_of_row _ _ _ _ _ _ hS.2.1]; rfl
      refine Runs.mk ?_
      simp only [putAll]
      go_simp
      refine hK _ _ ?_ hS ((fun w => Below.refl _ w) W) _ rfl rfl
      first | rfl | go_simp | simp
    · -- 12: Op.fieldAddr 51 (Operand.tmp 3) 2
      intro l hl vs W hS hR hp
      obtain rfl : l = [] := hl.symm.trans (by kernel_rfl)
      clear hp hl
      refine opgoal (_) (some 17) rfl rfl fun K hK => ?_
      refine Runs.mk ?_
      simp only [putAll]
      go_simp
      refine hK _ _ ?_ hS ((fun w => Below.refl _ w) W) _ rfl rfl
      first | rfl | go_simp | simp
    · -- 13: Op.load 3 (Operand.tmp 17)
      intro l hl vs W hS hR hp
      obtain rfl : l = [(12, 17)] := hl.symm.trans (by kernel_rfl)
      have p12 : vs 12 = _ := hp 12 (by decide) (by decide)
      clear hp hl
      refine opgoal (_) (some 18) rfl rfl fun K hK => ?_
      have fgb2 : W.cell? ⟨gb, 2, none⟩ = some (.int .i64 b3) := by rw [cell_of_row _ _ _ _ _ _ hS.2.2]; rfl
      refine Runs.mk ?_
      simp only [putAll]
      go_simp
      refine hK _ _ ?_ hS ((fun w => Below.refl _ w) W) _ rfl rfl
      first | rfl | go_simp | simp
    · -- 14: Op.call { callee := Callee.value (Operand.func 90), args := #[Operand.tmp 16, Operand.tmp 18], argTypes := #[3, 3] }
      intro l hl vs W hS hR hp
      obtain rfl : l = [(0, 5), (1, 6), (2, 7), (3, 8), (4, 9), (5, 10), (6, 11), (7, 12), (8, 13), (9, 14), (10, 15), (11, 16), (12, 17), (13, 18)] := hl.symm.trans (by kernel_rfl)
      have p11 : vs 11 = _ := hp 11 (by decide) (by decide)
      have p13 : vs 13 = _ := hp 13 (by decide) (by decide)
      clear hp hl
      refine opgoal (_) (some 19) rfl rfl fun K hK => ?_
      refine Runs.mk ?_
      simp only [putAll]
      go_simp
      refine (compare_any a3 b3 W).mono ?_
      rintro e w' ⟨rfl, rfl⟩
      go_simp
      exact hK _ _ rfl hS (Below.refl _ _) _ rfl rfl
    · -- 15: Op.buildSlice 55 3 #[(0, Operand.tmp 9), (1, Operand.tmp 14), (2, Operand.tmp 19)]
      intro l hl vs W hS hR hp
      obtain rfl : l = [(0, 5), (1, 6), (2, 7), (3, 8), (4, 9), (5, 10), (6, 11), (7, 12), (8, 13), (9, 14), (10, 15), (11, 16), (12, 17), (13, 18), (14, 19)] := hl.symm.trans (by kernel_rfl)
      have p4 : vs 4 = _ := hp 4 (by decide) (by decide)
      have p9 : vs 9 = _ := hp 9 (by decide) (by decide)
      have p14 : vs 14 = _ := hp 14 (by decide) (by decide)
      clear hp hl
      refine opgoal (_) (some 20) rfl rfl fun K hK => ?_
      refine Runs.mk ?_
      simp only [putAll]
      go_simp
      have hb := below_alloc W (.cells #[.int .i64 (cmpV a1 b1), .int .i64 (cmpV a2 b2), .int .i64 (cmpV a3 b3)] 3)
      exact hK _ _ ⟨W.heap.size, rfl, by simp, heap_alloc_new _ _⟩ ⟨below2 hS.1 hb, keep_block (.of_below (S := []) hb) hS.2.1 (by simp), keep_block (.of_below (S := []) hb) hS.2.2 (by simp)⟩ hb _ rfl rfl
    · -- 16: Op.call { callee := Callee.value (Operand.func 89), args := #[Operand.tmp 20], argTypes := #[55] }
      intro l hl vs W hS hR hp
      obtain rfl : l = [(0, 5), (1, 6), (2, 7), (3, 8), (4, 9), (5, 10), (6, 11), (7, 12), (8, 13), (9, 14), (10, 15), (11, 16), (12, 17), (13, 18), (14, 19), (15, 20)] := hl.symm.trans (by kernel_rfl)
      have p15 : (fun v W => ∃ g, v = .slice (some ⟨g, 0, none⟩) 3 3 ∧ g < W.heap.size ∧ W.heap[g]? = some (.cells #[.int .i64 (cmpV a1 b1), .int .i64 (cmpV a2 b2), .int .i64 (cmpV a3 b3)] 3 (0, 0))) (vs 15) W := hp 15 (by decide) (by decide)
      dsimp only at p15
      clear hp hl
      obtain ⟨g, q15, l15, b15⟩ := p15
      refine opgoal (_) (some 21) rfl rfl fun K hK => ?_
      refine Runs.mk ?_
      simp only [putAll]
      go_simp
      refine (or_any (some ⟨g, 0, none⟩) 3 3 [cmpV a1 b1, cmpV a2 b2, cmpV a3 b3] W (rd_ints 3 b15 (by simp) rfl (by decide)) q HQ.out).mono ?_
      rintro e w' ⟨rfl, rfl⟩
      go_simp
      exact hK _ _ rfl hS (Below.refl _ _) _ rfl rfl
    · -- 17: Op.assign (Operand.tmp 21)
      intro l hl vs W hS hR hp
      obtain rfl : l = [(0, 5), (1, 6), (2, 7), (3, 8), (4, 9), (5, 10), (6, 11), (7, 12), (8, 13), (9, 14), (10, 15), (11, 16), (12, 17), (13, 18), (14, 19), (15, 20), (16, 21)] := hl.symm.trans (by kernel_rfl)
      have p16 : vs 16 = _ := hp 16 (by decide) (by decide)
      clear hp hl
      refine opgoal (_) (some 4) rfl rfl fun K hK => ?_
      refine Runs.mk ?_
      simp only [putAll]
      go_simp
      refine hK _ _ ?_ hS ((fun w => Below.refl _ w) W) _ rfl rfl
      first | rfl | go_simp | simp
  · intro l hl vs W hS hR hp
    obtain rfl : l = [(0, 5), (1, 6), (2, 7), (3, 8), (4, 9), (5, 10), (6, 11), (7, 12), (8, 13), (9, 14), (10, 15), (11, 16), (12, 17), (13, 18), (14, 19), (15, 20), (16, 21), (17, 4)] := hl.symm.trans (by kernel_rfl)
    have p0 : vs 0 = _ := hp 0 (by decide) (by decide)
    have p1 : vs 1 = _ := hp 1 (by decide) (by decide)
    have p2 : vs 2 = _ := hp 2 (by decide) (by decide)
    have p3 : vs 3 = _ := hp 3 (by decide) (by decide)
    have p4 : vs 4 = _ := hp 4 (by decide) (by decide)
    have p5 : vs 5 = _ := hp 5 (by decide) (by decide)
    have p6 : vs 6 = _ := hp 6 (by decide) (by decide)
    have p7 : vs 7 = _ := hp 7 (by decide) (by decide)
    have p8 : vs 8 = _ := hp 8 (by decide) (by decide)
    have p9 : vs 9 = _ := hp 9 (by decide) (by decide)
    have p10 : vs 10 = _ := hp 10 (by decide) (by decide)
    have p11 : vs 11 = _ := hp 11 (by decide) (by decide)
    have p12 : vs 12 = _ := hp 12 (by decide) (by decide)
    have p13 : vs 13 = _ := hp 13 (by decide) (by decide)
    have p14 : vs 14 = _ := hp 14 (by decide) (by decide)
    have p16 : vs 16 = _ := hp 16 (by decide) (by decide)
    have p17 : vs 17 = _ := hp 17 (by decide) (by decide)
    clear hp hl
    simp only [putAll_mk, setAll, List.setIfInBounds_toArray, List.set_cons_succ, List.set_cons_zero, p0, p1, p2, p3, p4, p5, p6, p7, p8, p9, p10, p11, p12, p13, p14, p16, p17]
    have HS := Lib.hid hS.1
    clear hS hR hS0
    go_wp2
    go_ret
    exact ⟨rfl, HS.out⟩
end Go.Proofs.Ytfpocddpnoighaa.It

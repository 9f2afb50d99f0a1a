/- item: names of transactions, as they are put, read, compared. -/
import Derived.Test.YtfpocddpnoighaaMRu2
import Derived.Test.YtfpocddpnoighaaMRu6
import Derived.Test.YtfpocddpnoighaaMRu7
import Derived.Test.YtfpocddpnoighaaMRu8
import Derived.Test.YtfpocddpnoighaaMRu9
namespace Go.Proofs.Ytfpocddpnoighaa.It
open Go.RowKit Go.Proofs.Ytfpocddpnoighaa.L Go.Proofs.Ytfpocddpnoighaa.O Go.Proofs.Ytfpocddpnoighaa.A Go.Proofs.Ytfpocddpnoighaa.R Go.Proofs.Ytfpocddpnoighaa.S Go.Proofs.Ytfpocddpnoighaa.T Go.Proofs.Ytfpocddpnoighaa.E Go.Proofs.Ytfpocddpnoighaa.Wr
set_option linter.unusedVariables false
set_option linter.unusedSimpArgs false

/-! ### cmp -/
def cmpV (a b : Int) : Int := if a < b then -1 else if b < a then 1 else 0
set_option maxHeartbeats 1000000 in
theorem compare_any (a b : Int) (w : World) : Calls Try.prog 90 #[.int .i64 a, .int .i64 b] w fun e w' => e = .returned (.int .i64 (cmpV a b)) ∧ w = w' := by
  obtain ⟨r, hr⟩ : ∃ r, Hid (cmpV a b = r) := ⟨_, Lib.hid rfl⟩
  rw [hr.out]
  by_cases h1 : a < b
  · have er : Hid (r = -1) := Lib.hid (by rw [← hr.out]; simp [cmpV, h1])
    go_enter Try.func90, Try.ntmps90
    go_wp2
    go_ret
    exact ⟨reti er.out.symm, rfl⟩
  · by_cases h2 : b < a
    · have er : Hid (r = 1) := Lib.hid (by rw [← hr.out]; simp [cmpV, h1, h2])
      go_enter Try.func90, Try.ntmps90
      go_wp2
      go_ret
      exact ⟨reti er.out.symm, rfl⟩
    · have er : Hid (r = 0) := Lib.hid (by rw [← hr.out]; simp [cmpV, h1, h2])
      go_enter Try.func90, Try.ntmps90
      go_wp2
      go_ret
      exact ⟨reti er.out.symm, rfl⟩
def orV : List Int → Int
  | [] => 0
  | x :: l => if x = 0 then orV l else x
theorem orV_at : ∀ (l : List Int) (k : Nat) (h : k < l.length), (∀ j, (hj : j < l.length) → j < k → l[j] = 0) → l[k] ≠ 0 → orV l = l[k]
  | x :: l, 0, _, _, hn => by simp at hn; simp [orV, hn]
  | x :: l, k + 1, h, hz, hn => by
    have h0 := hz 0 (by simp) (by omega)
    simp at h0
    have ih := orV_at l k (by simpa using h) (fun j hj hjk => by have := hz (j + 1) (by simpa using hj) (by omega); simpa using this) (by simpa using hn)
    simp [orV, h0, ih]
theorem orV_none : ∀ (l : List Int), (∀ j, (hj : j < l.length) → l[j] = 0) → orV l = 0
  | [], _ => rfl
  | x :: l, hz => by
    have h0 := hz 0 (by simp)
    simp at h0
    have ih := orV_none l fun j hj => by have := hz (j + 1) (by simpa using hj); simpa using this
    simp [orV, h0, ih]
set_option maxHeartbeats 1000000 in
theorem or_any (A : Option Addr) (n c : Nat) (xs : List Int) (w : World) (hr : Rd w A n (xs.map (Value.int .i64))) (q : Int) (hq : orV xs = q) :
    Calls Try.prog 89 #[.slice A n c] w fun e w' => e = .returned (.int .i64 q) ∧ w = w' := by
  have hln := hr.2.1
  have HR := Lib.hid hr
  have HL : Hid (xs.length = n) := Lib.hid (by simpa using hr.len)
  have HQ := Lib.hid hq
  clear hr hq
  go_enter Try.func89, Try.ntmps89
  go_wp2
  go_loopw [8] (fun i wr => ∃ k : Nat, k ≤ n ∧ i = .int .i64 k ∧ wr = w ∧ Hid (∀ j, (hj : j < xs.length) → j < k → xs[j] = 0)) (fun i _ => n - (intOf i).toNat)
  case atStart => exact ⟨0, by omega, rfl, rfl, Lib.hid fun j _ h => absurd h (by omega)⟩
  case round =>
    obtain ⟨k, hk, rfl, rfl, hz⟩ := hrel
    by_cases hlt : k < n
    · obtain ⟨ab, ao, hAe, hc⟩ := HR.out.2.2 (by omega)
      subst hAe
      have hkl : k < xs.length := by have := HL.out; omega
      obtain ⟨x, hx⟩ : ∃ x, Hid (x = xs[k]) := ⟨_, Lib.hid rfl⟩
      have c0 := hc k hlt
      rw [List.getElem?_map, List.getElem?_eq_getElem hkl, ← hx.out] at c0
      simp only [Option.map_some] at c0
      clear hc
      by_cases hx0 : x = 0
      · have hstep : Hid (∀ j, (hj : j < xs.length) → j < k + 1 → xs[j] = 0) := Lib.hid fun j hj hjk => by
          by_cases e : j = k
          · subst e; rw [← hx.out]; exact hx0
          · exact hz.out j hj (by omega)
        subst hx0
        go_wp2
        go_roundw
        case rel => exact ⟨k + 1, by omega, by go_num, by first | rfl | trivial, hstep⟩
        case measure => simp [intOf]; omega
      · have er : Hid (x = q) := Lib.hid (by rw [← HQ.out, orV_at xs k hkl hz.out (by rw [← hx.out]; exact hx0), hx.out])
        go_wp2
        go_ret
        exact ⟨reti er.out, rfl⟩
    · have er : Hid (q = 0) := Lib.hid (by rw [← HQ.out]; exact orV_none xs fun j hj => hz.out j hj (by have := HL.out; omega))
      go_wp2
      go_ret
      exact ⟨reti er.out.symm, rfl⟩
/-- the order of names. -/
def ordV (a1 a2 a3 b1 b2 b3 : Int) : Int := orV [cmpV a1 b1, cmpV a2 b2, cmpV a3 b3]
theorem tid_size : (Try.prog.info? 51).map (·.size) = some 3 := by kernel_rfl
set_option maxHeartbeats 4000000 in
set_option maxRecDepth 100000 in
theorem order_any (a1 a2 a3 b1 b2 b3 : Int) (w : World) (q : Int) (hq' : ordV a1 a2 a3 b1 b2 b3 = q) : Calls Try.prog 32 #[.agg #[.int .i64 a1, .int .i64 a2, .int .i64 a3], .agg #[.int .i64 b1, .int .i64 b2, .int .i64 b3]] w fun e w' => e = .returned (.int .i64 q) ∧ Below w.heap.size w w' := by
  have HQ := Lib.hid hq'
  clear hq'
  obtain ⟨ga, hga⟩ : ∃ g, Hid (w.heap.size = g) := ⟨_, Lib.hid rfl⟩
  obtain ⟨gb, hgb⟩ : ∃ g, Hid (w.heap.size + 1 = g) := ⟨_, Lib.hid rfl⟩
  obtain ⟨W0, hW0⟩ : ∃ W0, Hid ((w.alloc (.cells #[.int .i64 a1, .int .i64 a2, .int .i64 a3] 51)).alloc (.cells #[.int .i64 b1, .int .i64 b2, .int .i64 b3] 51) = W0) := ⟨_, Lib.hid rfl⟩
  have hS0 : Below w.heap.size w W0.drew ∧ W0.drew.heap[ga]? = some (.cells #[.int .i64 a1, .int .i64 a2, .int .i64 a3] 51 (0, 0)) ∧ W0.drew.heap[gb]? = some (.cells #[.int .i64 b1, .int .i64 b2, .int .i64 b3] 51 (0, 0)) := by
    rw [← hW0.out, ← hga.out, ← hgb.out]
    refine ⟨(below2 (below_alloc _ _) (below_alloc _ _)).drew, ?_, ?_⟩
    · show (World.alloc _ _).heap[_]? = _
      rw [heap_alloc_old _ _ (by simp)]; exact heap_alloc_new _ _
    · have := heap_alloc_new (w.alloc (.cells #[.int .i64 a1, .int .i64 a2, .int .i64 a3] 51)) (.cells #[.int .i64 b1, .int .i64 b2, .int .i64 b3] 51)
      rw [World.size_alloc] at this
      exact this
  go_enter Try.func32, Try.ntmps32
  go_wp2_with fail
  rw [hW0.out, hgb.out, hga.out]
  refine wp_region_one (fun W => Below w.heap.size w W ∧ W.heap[ga]? = some (.cells #[.int .i64 a1, .int .i64 a2, .int .i64 a3] 51 (0, 0)) ∧ W.heap[gb]? = some (.cells #[.int .i64 b1, .int .i64 b2, .int .i64 b3] 51 (0, 0))) (fun u v => Below u.heap.size u v) (fun a i => match i with
      | 0 => (fun v _ => v = .pointer (some ⟨ga, 0, none⟩))
      | 1 => (fun v _ => v = .int .i64 a1)
      | 2 => (fun v _ => v = .pointer (some ⟨gb, 0, none⟩))
      | 3 => (fun v _ => v = .int .i64 b1)
      | 4 => (fun v _ => v = .int .i64 (cmpV a1 b1))
      | 5 => (fun v _ => v = .pointer (some ⟨ga, 1, none⟩))
      | 6 => (fun v _ => v = .int .i64 a2)
      | 7 => (fun v _ => v = .pointer (some ⟨gb, 1, none⟩))
      | 8 => (fun v _ => v = .int .i64 b2)
      | 9 => (fun v _ => v = .int .i64 (cmpV a2 b2))
      | 10 => (fun v _ => v = .pointer (some ⟨ga, 2, none⟩))
      | 11 => (fun v _ => v = .int .i64 a3)
      | 12 => (fun v _ => v = .pointer (some ⟨gb, 2, none⟩))
      | 13 => (fun v _ => v = .int .i64 b3)
      | 14 => (fun v _ => v = .int .i64 (cmpV a3 b3))
      | 15 => (fun v W => ∃ g, v = .slice (some ⟨g, 0, none⟩) 3 3 ∧ g < W.heap.size ∧ W.heap[g]? = some (.cells #[.int .i64 (cmpV a1 b1), .int .i64 (cmpV a2 b2), .int .i64 (cmpV a3 b3)] 3 (0, 0)))
      | 16 => (fun v _ => v = .int .i64 q)
      | 17 => (fun v _ => v = .int .i64 q)
      | _ => (fun _ _ => True)) #[0, 1, 0, 4, 15, 0, 32, 0, 128, 511, 0, 1024, 0, 4096, 16383, 32767, 65535, 131071] #[0, 1, 0, 4, 10, 0, 32, 0, 128, 320, 0, 1024, 0, 4096, 10240, 16912, 32768, 65536] 229375 (by kernel_rfl) 18 rfl (fun m hm => by subst hm; kernel_rfl) (by kernel_rfl) (fun w => Below.refl _ w) (fun u v w h1 h2 => below2 h1 h2) ?_ (hS0) ?_ ?_
  · intro i hi
    rcases (by omega : i = 0 ∨ i = 1 ∨ i = 2 ∨ i = 3 ∨ i = 4 ∨ i = 5 ∨ i = 6 ∨ i = 7 ∨ i = 8 ∨ i = 9 ∨ i = 10 ∨ i = 11 ∨ i = 12 ∨ i = 13 ∨ i = 14 ∨ i = 15 ∨ i = 16 ∨ i = 17) with rfl | rfl | rfl | rfl | rfl | rfl | rfl | rfl | rfl | rfl | rfl | rfl | rfl | rfl | rfl | rfl | rfl | rfl
    · exact fun v w w' h hr => by exact h
    · exact fun v w w' h hr => by exact h
    · exact fun v w w' h hr => by exact h
    · exact fun v w w' h hr => by exact h
    · exact fun v w w' h hr => by exact h
    · exact fun v w w' h hr => by exact h
    · exact fun v w w' h hr => by exact h
    · exact fun v w w' h hr => by exact h
    · exact fun v w w' h hr => by exact h
    · exact fun v w w' h hr => by exact h
    · exact fun v w w' h hr => by exact h
    · exact fun v w w' h hr => by exact h
    · exact fun v w w' h hr => by exact h
    · exact fun v w w' h hr => by exact h
    · exact fun v w w' h hr => by exact h
    · exact fun v w w' h hr => by obtain ⟨g, h1, h2, h3⟩ := h; exact ⟨g, h1, Nat.lt_of_lt_of_le h2 hr.size, (hr.block g h2).trans h3⟩
    · exact fun v w w' h hr => by exact h
    · exact fun v w w' h hr => by exact h
  · intro i hi
    rcases (by omega : i = 0 ∨ i = 1 ∨ i = 2 ∨ i = 3 ∨ i = 4 ∨ i = 5 ∨ i = 6 ∨ i = 7 ∨ i = 8 ∨ i = 9 ∨ i = 10 ∨ i = 11 ∨ i = 12 ∨ i = 13 ∨ i = 14 ∨ i = 15 ∨ i = 16 ∨ i = 17) with rfl | rfl | rfl | rfl | rfl | rfl | rfl | rfl | rfl | rfl | rfl | rfl | rfl | rfl | rfl | rfl | rfl | rfl
    · -- 0: Op.fieldAddr 51 (Operand.tmp 2) 0
      intro l hl vs W hS hR hp
      obtain rfl : l = [] := hl.symm.trans (by kernel_rfl)
      clear hp hl
      refine opgoal (_) (some 5) rfl rfl fun K hK => ?_
      refine Runs.mk ?_
      simp only [putAll]
      go_simp
      refine hK _ _ ?_ hS ((fun w => Below.refl _ w) W) _ rfl rfl
      first | rfl | go_simp | simp
    · -- 1: Op.load 3 (Operand.tmp 5)
      intro l hl vs W hS hR hp
      obtain rfl : l = [(0, 5)] := hl.symm.trans (by kernel_rfl)
      have p0 : vs 0 = _ := hp 0 (by decide) (by decide)
      clear hp hl
      refine opgoal (_) (some 6) rfl rfl fun K hK => ?_
      have fga0 : W.cell? ⟨ga, 0, none⟩ = some (.int .i64 a1) := by rw [cell_of_row _ _ _ _ _ _ hS.2.1]; rfl
      refine Runs.mk ?_
      simp only [putAll]
      go_simp
      refine hK _ _ ?_ hS ((fun w => Below.refl _ w) W) _ rfl rfl
      first | rfl | go_simp | simp
    · -- 2: Op.fieldAddr 51 (Operand.tmp 3) 0
      intro l hl vs W hS hR hp
      obtain rfl : l = [] := hl.symm.trans (by kernel_rfl)
      clear hp hl
      refine opgoal (_) (some 7) rfl rfl fun K hK => ?_
      refine Runs.mk ?_
      simp only [putAll]
      go_simp
      refine hK _ _ ?_ hS ((fun w => Below.refl _ w) W) _ rfl rfl
      first | rfl | go_simp | simp
    · -- 3: Op.load 3 (Operand.tmp 7)
      intro l hl vs W hS hR hp
      obtain rfl : l = [(2, 7)] := hl.symm.trans (by kernel_rfl)
      have p2 : vs 2 = _ := hp 2 (by decide) (by decide)
      clear hp hl
      refine opgoal (_) (some 8) rfl rfl fun K hK => ?_
      have fgb0 : W.cell? ⟨gb, 0, none⟩ = some (.int .i64 b1) := by rw [cell_of_row _ _ _ _ _ _ hS.2.2]; rfl
      refine Runs.mk ?_
      simp only [putAll]
      go_simp
      refine hK _ _ ?_ hS ((fun w => Below.refl _ w) W) _ rfl rfl
      first | rfl | go_simp | simp
    · -- 4: Op.call { callee := Callee.value (Operand.func 90), args := #[Operand.tmp 6, Operand.tmp 8], argTypes := #[3, 3] }
      intro l hl vs W hS hR hp
      obtain rfl : l = [(0, 5), (1, 6), (2, 7), (3, 8)] := hl.symm.trans (by kernel_rfl)
      have p1 : vs 1 = _ := hp 1 (by decide) (by decide)
      have p3 : vs 3 = _ := hp 3 (by decide) (by decide)
      clear hp hl
      refine opgoal (_) (some 9) rfl rfl fun K hK => ?_
      refine Runs.mk ?_
      simp only [putAll]
      go_simp
      refine (compare_any a1 b1 W).mono ?_
      rintro e w' ⟨rfl, rfl⟩
      go_simp
      exact hK _ _ rfl hS (Below.refl _ _) _ rfl rfl
    · -- 5: Op.fieldAddr 51 (Operand.tmp 2) 1
      intro l hl vs W hS hR hp
      obtain rfl : l = [] := hl.symm.trans (by kernel_rfl)
      clear hp hl
      refine opgoal (_) (some 10) rfl rfl fun K hK => ?_
      refine Runs.mk ?_
      simp only [putAll]
      go_simp
      refine hK _ _ ?_ hS ((fun w => Below.refl _ w) W) _ rfl rfl
      first | rfl | go_simp | simp
    · -- 6: Op.load 3 (Operand.tmp 10)
      intro l hl vs W hS hR hp
      obtain rfl : l = [(5, 10)] := hl.symm.trans (by kernel_rfl)
      have p5 : vs 5 = _ := hp 5 (by decide) (by decide)
      clear hp hl
      refine opgoal (_) (some 11) rfl rfl fun K hK => ?_
      have fga1 : W.cell? ⟨ga, 1, none⟩ = some (.int .i64 a2) := by rw [cell_of_row _ _ _ _ _ _ hS.2.1]; rfl
      refine Runs.mk ?_
      simp only [putAll]
      go_simp
      refine hK _ _ ?_ hS ((fun w => Below.refl _ w) W) _ rfl rfl
      first | rfl | go_simp | simp
    · -- 7: Op.fieldAddr 51 (Operand.tmp 3) 1
      intro l hl vs W hS hR hp
      obtain rfl : l = [] := hl.symm.trans (by kernel_rfl)
      clear hp hl
      refine opgoal (_) (some 12) rfl rfl fun K hK => ?_
      refine Runs.mk ?_
      simp only [putAll]
      go_simp
      refine hK _ _ ?_ hS ((fun w => Below.refl _ w) W) _ rfl rfl
      first | rfl | go_simp | simp
    · -- 8: Op.load 3 (Operand.tmp 12)
      intro l hl vs W hS hR hp
      obtain rfl : l = [(7, 12)] := hl.symm.trans (by kernel_rfl)
      have p7 : vs 7 = _ := hp 7 (by decide) (by decide)
      clear hp hl
      refine opgoal (_) (some 13) rfl rfl fun K hK => ?_
      have fgb1 : W.cell? ⟨gb, 1, none⟩ = some (.int .i64 b2) := by rw [cell_of_row _ _ _ _ _ _ hS.2.2]; rfl
      refine Runs.mk ?_
      simp only [putAll]
      go_simp
      refine hK _ _ ?_ hS ((fun w => Below.refl _ w) W) _ rfl rfl
      first | rfl | go_simp | simp
    · -- 9: Op.call { callee := Callee.value (Operand.func 90), args := #[Operand.tmp 11, Operand.tmp 13], argTypes := #[3, 3] }
      intro l hl vs W hS hR hp
      obtain rfl : l = [(0, 5), (1, 6), (2, 7), (3, 8), (4, 9), (5, 10), (6, 11), (7, 12), (8, 13)] := hl.symm.trans (by kernel_rfl)
      have p6 : vs 6 = _ := hp 6 (by decide) (by decide)
      have p8 : vs 8 = _ := hp 8 (by decide) (by decide)
      clear hp hl
      refine opgoal (_) (some 14) rfl rfl fun K hK => ?_
      refine Runs.mk ?_
      simp only [putAll]
      go_simp
      refine (compare_any a2 b2 W).mono ?_
      rintro e w' ⟨rfl, rfl⟩
      go_simp
      exact hK _ _ rfl hS (Below.refl _ _) _ rfl rfl
    · -- 10: Op.fieldAddr 51 (Operand.tmp 2) 2
      intro l hl vs W hS hR hp
      obtain rfl : l = [] := hl.symm.trans (by kernel_rfl)
      clear hp hl
      refine opgoal (_) (some 15) rfl rfl fun K hK => ?_
      refine Runs.mk ?_
      simp only [putAll]
      go_simp
      refine hK _ _ ?_ hS ((fun w => Below.refl _ w) W) _ rfl rfl
      first | rfl | go_simp | simp
    · -- 11: Op.load 3 (Operand.tmp 15)
      intro l hl vs W hS hR hp
      obtain rfl : l = [(10, 15)] := hl.symm.trans (by kernel_rfl)
      have p10 : vs 10 = _ := hp 10 (by decide) (by decide)
      clear hp hl
      refine opgoal (_) (some 16) rfl rfl fun K hK => ?_
      have fga2 : W.cell? ⟨ga, 2, none⟩ = some (.int .i64 a3) := by rw [cell_of_row _ _ _ _ _ _ hS.2.1]; rfl
      refine Runs.mk ?_
      simp only [putAll]
      go_simp
      refine hK _ _ ?_ hS ((fun w => Below.refl _ w) W) _ rfl rfl
      first | rfl | go_simp | simp
    · -- 12: Op.fieldAddr 51 (Operand.tmp 3) 2
      intro l hl vs W hS hR hp
      obtain rfl : l = [] := hl.symm.trans (by kernel_rfl)
      clear hp hl
      refine opgoal (_) (some 17) rfl rfl fun K hK => ?_
      refine Runs.mk ?_
      simp only [putAll]
      go_simp
      refine hK _ _ ?_ hS ((fun w => Below.refl _ w) W) _ rfl rfl
      first | rfl | go_simp | simp
    · -- 13: Op.load 3 (Operand.tmp 17)
      intro l hl vs W hS hR hp
      obtain rfl : l = [(12, 17)] := hl.symm.trans (by kernel_rfl)
      have p12 : vs 12 = _ := hp 12 (by decide) (by decide)
      clear hp hl
      refine opgoal (_) (some 18) rfl rfl fun K hK => ?_
      have fgb2 : W.cell? ⟨gb, 2, none⟩ = some (.int .i64 b3) := by rw [cell_of_row _ _ _ _ _ _ hS.2.2]; rfl
      refine Runs.mk ?_
      simp only [putAll]
      go_simp
      refine hK _ _ ?_ hS ((fun w => Below.refl _ w) W) _ rfl rfl
      first | rfl | go_simp | simp
    · -- 14: Op.call { callee := Callee.value (Operand.func 90), args := #[Operand.tmp 16, Operand.tmp 18], argTypes := #[3, 3] }
      intro l hl vs W hS hR hp
      obtain rfl : l = [(0, 5), (1, 6), (2, 7), (3, 8), (4, 9), (5, 10), (6, 11), (7, 12), (8, 13), (9, 14), (10, 15), (11, 16), (12, 17), (13, 18)] := hl.symm.trans (by kernel_rfl)
      have p11 : vs 11 = _ := hp 11 (by decide) (by decide)
      have p13 : vs 13 = _ := hp 13 (by decide) (by decide)
      clear hp hl
      refine opgoal (_) (some 19) rfl rfl fun K hK => ?_
      refine Runs.mk ?_
      simp only [putAll]
      go_simp
      refine (compare_any a3 b3 W).mono ?_
      rintro e w' ⟨rfl, rfl⟩
      go_simp
      exact hK _ _ rfl hS (Below.refl _ _) _ rfl rfl
    · -- 15: Op.buildSlice 55 3 #[(0, Operand.tmp 9), (1, Operand.tmp 14), (2, Operand.tmp 19)]
      intro l hl vs W hS hR hp
      obtain rfl : l = [(0, 5), (1, 6), (2, 7), (3, 8), (4, 9), (5, 10), (6, 11), (7, 12), (8, 13), (9, 14), (10, 15), (11, 16), (12, 17), (13, 18), (14, 19)] := hl.symm.trans (by kernel_rfl)
      have p4 : vs 4 = _ := hp 4 (by decide) (by decide)
      have p9 : vs 9 = _ := hp 9 (by decide) (by decide)
      have p14 : vs 14 = _ := hp 14 (by decide) (by decide)
      clear hp hl
      refine opgoal (_) (some 20) rfl rfl fun K hK => ?_
      refine Runs.mk ?_
      simp only [putAll]
      go_simp
      have hb := below_alloc W (.cells #[.int .i64 (cmpV a1 b1), .int .i64 (cmpV a2 b2), .int .i64 (cmpV a3 b3)] 3)
      exact hK _ _ ⟨W.heap.size, rfl, by simp, heap_alloc_new _ _⟩ ⟨below2 hS.1 hb, keep_block (.of_below (S := []) hb) hS.2.1 (by simp), keep_block (.of_below (S := []) hb) hS.2.2 (by simp)⟩ hb _ rfl rfl
    · -- 16: Op.call { callee := Callee.value (Operand.func 89), args := #[Operand.tmp 20], argTypes := #[55] }
      intro l hl vs W hS hR hp
      obtain rfl : l = [(0, 5), (1, 6), (2, 7), (3, 8), (4, 9), (5, 10), (6, 11), (7, 12), (8, 13), (9, 14), (10, 15), (11, 16), (12, 17), (13, 18), (14, 19), (15, 20)] := hl.symm.trans (by kernel_rfl)
      have p15 : (fun v W => ∃ g, v = .slice (some ⟨g, 0, none⟩) 3 3 ∧ g < W.heap.size ∧ W.heap[g]? = some (.cells #[.int .i64 (cmpV a1 b1), .int .i64 (cmpV a2 b2), .int .i64 (cmpV a3 b3)] 3 (0, 0))) (vs 15) W := hp 15 (by decide) (by decide)
      dsimp only at p15
      clear hp hl
      obtain ⟨g, q15, l15, b15⟩ := p15
      refine opgoal (_) (some 21) rfl rfl fun K hK => ?_
      refine Runs.mk ?_
      simp only [putAll]
      go_simp
      refine (or_any (some ⟨g, 0, none⟩) 3 3 [cmpV a1 b1, cmpV a2 b2, cmpV a3 b3] W (rd_ints 3 b15 (by simp) rfl (by decide)) q HQ.out).mono ?_
      rintro e w' ⟨rfl, rfl⟩
      go_simp
      exact hK _ _ rfl hS (Below.refl _ _) _ rfl rfl
    · -- 17: Op.assign (Operand.tmp 21)
      intro l hl vs W hS hR hp
      obtain rfl : l = [(0, 5), (1, 6), (2, 7), (3, 8), (4, 9), (5, 10), (6, 11), (7, 12), (8, 13), (9, 14), (10, 15), (11, 16), (12, 17), (13, 18), (14, 19), (15, 20), (16, 21)] := hl.symm.trans (by kernel_rfl)
      have p16 : vs 16 = _ := hp 16 (by decide) (by decide)
      clear hp hl
      refine opgoal (_) (some 4) rfl rfl fun K hK => ?_
      refine Runs.mk ?_
      simp only [putAll]
      go_simp
      refine hK _ _ ?_ hS ((fun w => Below.refl _ w) W) _ rfl rfl
      first | rfl | go_simp | simp
  · intro l hl vs W hS hR hp
    obtain rfl : l = [(0, 5), (1, 6), (2, 7), (3, 8), (4, 9), (5, 10), (6, 11), (7, 12), (8, 13), (9, 14), (10, 15), (11, 16), (12, 17), (13, 18), (14, 19), (15, 20), (16, 21), (17, 4)] := hl.symm.trans (by kernel_rfl)
    have p0 : vs 0 = _ := hp 0 (by decide) (by decide)
    have p1 : vs 1 = _ := hp 1 (by decide) (by decide)
    have p2 : vs 2 = _ := hp 2 (by decide) (by decide)
    have p3 : vs 3 = _ := hp 3 (by decide) (by decide)
    have p4 : vs 4 = _ := hp 4 (by decide) (by decide)
    have p5 : vs 5 = _ := hp 5 (by decide) (by decide)
    have p6 : vs 6 = _ := hp 6 (by decide) (by decide)
    have p7 : vs 7 = _ := hp 7 (by decide) (by decide)
    have p8 : vs 8 = _ := hp 8 (by decide) (by decide)
    have p9 : vs 9 = _ := hp 9 (by decide) (by decide)
    have p10 : vs 10 = _ := hp 10 (by decide) (by decide)
    have p11 : vs 11 = _ := hp 11 (by decide) (by decide)
    have p12 : vs 12 = _ := hp 12 (by decide) (by decide)
    have p13 : vs 13 = _ := hp 13 (by decide) (by decide)
    have p14 : vs 14 = _ := hp 14 (by decide) (by decide)
    have p16 : vs 16 = _ := hp 16 (by decide) (by decide)
    have p17 : vs 17 = _ := hp 17 (by decide) (by decide)
    clear hp hl
    simp only [putAll_mk, setAll, List.setIfInBounds_toArray, List.set_cons_succ, List.set_cons_zero, p0, p1, p2, p3, p4, p5, p6, p7, p8, p9, p10, p11, p12, p13, p14, p16, p17]
    have HS := Lib.hid hS.1
    clear hS hR hS0
    go_wp2
    go_ret
    exact ⟨rfl, HS.out⟩
end Go.Proofs.Ytfpocddpnoighaa.It

/- item: a name is put, a name is read. -/
namespace Go.Proofs.Ytfpocddpnoighaa.It
open Go.RowKit Go.Proofs.Ytfpocddpnoighaa.L Go.Proofs.Ytfpocddpnoighaa.O Go.Proofs.Ytfpocddpnoighaa.A Go.Proofs.Ytfpocddpnoighaa.R Go.Proofs.Ytfpocddpnoighaa.S Go.Proofs.Ytfpocddpnoighaa.T Go.Proofs.Ytfpocddpnoighaa.E Go.Proofs.Ytfpocddpnoighaa.Wr
set_option linter.unusedVariables false
set_option linter.unusedSimpArgs false

set_option maxHeartbeats 4000000 in
set_option maxRecDepth 100000 in
theorem tid_put (b : Nat) (r : Option Nat) (bs : List UInt8) (bad : Bool) (x y z : Int) (w : World) (h : Wr w b r bs bad) (hlen : bs.length + 24 ≤ 140737488355328) :
    Calls Try.prog 40 #[.pointer (some ⟨b, 0, none⟩), .agg #[.int .i64 x, .int .i64 y, .int .i64 z]] w fun e w' => e = .returned (.tuple #[]) ∧ Wrs w b (blks b r) (bs ++ numsB [x, y, z]) bad w' := by
  obtain ⟨g, hg⟩ : ∃ g, Hid (w.heap.size = g) := ⟨_, Lib.hid rfl⟩
  obtain ⟨W0, hW0⟩ : ∃ W0, Hid (w.alloc (.cells #[.int .i64 x, .int .i64 y, .int .i64 z] 51) = W0) := ⟨_, Lib.hid rfl⟩
  have hb0 : Below w.heap.size w W0 := by rw [← hW0.out]; exact below_alloc _ _
  have hK0 : Hid (Keep (blks b r) w W0.drew) := Lib.hid (Keep.of_below hb0).drew
  have hS0 : Wr W0.drew b r bs bad ∧ W0.drew.heap[g]? = some (.cells #[.int .i64 x, .int .i64 y, .int .i64 z] 51 (0, 0)) := ⟨(h.below hb0).below (below_drew (Below.refl _ _)), by
    show W0.heap[g]? = _
    rw [← hW0.out, ← hg.out]; exact heap_alloc_new _ _⟩
  clear h hb0
  go_enter Try.func40, Try.ntmps40
  go_wp2_with fail
  rw [hW0.out, hg.out]
  refine wp_region_last (fun W => Wr W b r bs bad ∧ W.heap[g]? = some (.cells #[.int .i64 x, .int .i64 y, .int .i64 z] 51 (0, 0))) (fun u v => Keep (blks b r) u v) (fun k u v => ((k = 10) → (fun u v => Keep (blks b r) u v) u v) ∧ (¬ (k = 10) → (fun u v => Below u.heap.size u v) u v)) (fun a i => match i with
      | 0 => (fun v _ => v = a.tmps.getD 0 undef)
      | 1 => (fun v _ => v = .pointer (some ⟨b, 0, none⟩))
      | 2 => (fun v _ => v = .pointer (some ⟨b, 0, none⟩))
      | 3 => (fun v _ => v = .pointer (some ⟨g, 0, none⟩))
      | 4 => (fun v _ => v = .int .i64 x)
      | 5 => (fun v _ => v = .pointer (some ⟨g, 1, none⟩))
      | 6 => (fun v _ => v = .int .i64 y)
      | 7 => (fun v _ => v = .pointer (some ⟨g, 2, none⟩))
      | 8 => (fun v _ => v = .int .i64 z)
      | 9 => (fun v W => ∃ k, v = .slice (some ⟨k, 0, none⟩) 3 3 ∧ k < W.heap.size ∧ k ∉ blks b r ∧ W.heap[k]? = some (.cells #[.int .i64 x, .int .i64 y, .int .i64 z] 3 (0, 0)))
      | 10 => (fun v W => Wrs w b (blks b r) (bs ++ numsB [x, y, z]) bad W)
      | _ => (fun _ _ => True)) #[0, 1, 3, 0, 8, 0, 32, 0, 128, 504, 1023] #[0, 1, 2, 0, 8, 0, 32, 0, 128, 336, 516] 1535 10 (by kernel_rfl) 11 rfl (by kernel_rfl) (fun m hm => by subst hm; kernel_rfl) (by kernel_rfl) (fun w => Keep.refl _ w) (fun u v w h1 h2 => h1.trans h2) ?_ ?_ (hS0) ?_ ?_
  · intro k u v hk hr
    by_cases hs : k = 10
    · have h := hr.1 hs; exact h
    · have h := hr.2 hs; exact Keep.of_below h
  · intro i hi hiz
    rcases (by omega : i = 0 ∨ i = 1 ∨ i = 2 ∨ i = 3 ∨ i = 4 ∨ i = 5 ∨ i = 6 ∨ i = 7 ∨ i = 8 ∨ i = 9 ∨ i = 10) with rfl | rfl | rfl | rfl | rfl | rfl | rfl | rfl | rfl | rfl | rfl
    · intro k hk q hq hqt v w w' h hr
      by_cases hs : k = 10
      · have hr0 := hr.1 hs
        rcases hs with rfl
        · exact (fun (h : _) (hr : _) => by exact h) h hr0
      · have hr := hr.2 hs
        exact h
    · intro k hk q hq hqt v w w' h hr
      by_cases hs : k = 10
      · have hr0 := hr.1 hs
        rcases hs with rfl
        · exact (fun (h : _) (hr : _) => by exact h) h hr0
      · have hr := hr.2 hs
        exact h
    · intro k hk q hq hqt v w w' h hr
      by_cases hs : k = 10
      · have hr0 := hr.1 hs
        rcases hs with rfl
        · exact (fun (h : _) (hr : _) => by exact h) h hr0
      · have hr := hr.2 hs
        exact h
    · intro k hk q hq hqt v w w' h hr
      by_cases hs : k = 10
      · have hr0 := hr.1 hs
        rcases hs with rfl
        · exact (fun (h : _) (hr : _) => by exact h) h hr0
      · have hr := hr.2 hs
        exact h
    · intro k hk q hq hqt v w w' h hr
      by_cases hs : k = 10
      · have hr0 := hr.1 hs
        rcases hs with rfl
        · exact (fun (h : _) (hr : _) => by exact h) h hr0
      · have hr := hr.2 hs
        exact h
    · intro k hk q hq hqt v w w' h hr
      by_cases hs : k = 10
      · have hr0 := hr.1 hs
        rcases hs with rfl
        · exact (fun (h : _) (hr : _) => by exact h) h hr0
      · have hr := hr.2 hs
        exact h
    · intro k hk q hq hqt v w w' h hr
      by_cases hs : k = 10
      · have hr0 := hr.1 hs
        rcases hs with rfl
        · exact (fun (h : _) (hr : _) => by exact h) h hr0
      · have hr := hr.2 hs
        exact h
    · intro k hk q hq hqt v w w' h hr
      by_cases hs : k = 10
      · have hr0 := hr.1 hs
        rcases hs with rfl
        · exact (fun (h : _) (hr : _) => by exact h) h hr0
      · have hr := hr.2 hs
        exact h
    · intro k hk q hq hqt v w w' h hr
      by_cases hs : k = 10
      · have hr0 := hr.1 hs
        rcases hs with rfl
        · exact (fun (h : _) (hr : _) => by exact h) h hr0
      · have hr := hr.2 hs
        exact h
    · intro k hk q hq hqt v w w' h hr
      by_cases hs : k = 10
      · have hr0 := hr.1 hs
        rcases hs with rfl
        · exact absurd (hq.trans hqt) (ne_true_of_eq_false (by kernel_rfl))
      · have hr := hr.2 hs
        obtain ⟨k, h1, h2, h3, h4⟩ := h; exact ⟨k, h1, Nat.lt_of_lt_of_le h2 hr.size, h3, (hr.block k h2).trans h4⟩
    · exact absurd rfl hiz
  · intro i hi
    rcases (by omega : i = 0 ∨ i = 1 ∨ i = 2 ∨ i = 3 ∨ i = 4 ∨ i = 5 ∨ i = 6 ∨ i = 7 ∨ i = 8 ∨ i = 9 ∨ i = 10) with rfl | rfl | rfl | rfl | rfl | rfl | rfl | rfl | rfl | rfl | rfl
    · -- 0: Op.move (Operand.tmp 0)
      intro l hl vs W hS hR hp
      obtain rfl : l = [] := hl.symm.trans (by kernel_rfl)
      clear hp hl
      refine opgoal (_) (some 4) rfl rfl fun K hK => ?_
      refine Runs.mk ?_
      simp only [putAll]
      go_simp
      refine hK _ _ ?_ (fun _ => hS) ⟨fun h => absurd h (by decide), fun _ => ((fun w => Below.refl _ w) W)⟩ _ rfl rfl
      first | rfl | go_simp | simp
    · -- 1: Op.nilCheck (Operand.tmp 4)
      intro l hl vs W hS hR hp
      obtain rfl : l = [(0, 4)] := hl.symm.trans (by kernel_rfl)
      have p0 : vs 0 = _ := hp 0 (by decide) (by decide)
      clear hp hl
      refine opgoal (_) (some 5) rfl rfl fun K hK => ?_
      refine Runs.mk ?_
      simp only [putAll]
      go_simp
      refine hK _ _ ?_ (fun _ => hS) ⟨fun h => absurd h (by decide), fun _ => ((fun w => Below.refl _ w) W)⟩ _ rfl rfl
      first | rfl | go_simp | simp
    · -- 2: Op.fieldAddr 65 (Operand.tmp 5) 0
      intro l hl vs W hS hR hp
      obtain rfl : l = [(0, 4), (1, 5)] := hl.symm.trans (by kernel_rfl)
      have p1 : vs 1 = _ := hp 1 (by decide) (by decide)
      clear hp hl
      refine opgoal (_) (some 6) rfl rfl fun K hK => ?_
      refine Runs.mk ?_
      simp only [putAll]
      go_simp
      refine hK _ _ ?_ (fun _ => hS) ⟨fun h => absurd h (by decide), fun _ => ((fun w => Below.refl _ w) W)⟩ _ rfl rfl
      first | rfl | go_simp | simp
    · -- 3: Op.fieldAddr 51 (Operand.tmp 3) 0
      intro l hl vs W hS hR hp
      obtain rfl : l = [] := hl.symm.trans (by kernel_rfl)
      clear hp hl
      refine opgoal (_) (some 7) rfl rfl fun K hK => ?_
      refine Runs.mk ?_
      simp only [putAll]
      go_simp
      refine hK _ _ ?_ (fun _ => hS) ⟨fun h => absurd h (by decide), fun _ => ((fun w => Below.refl _ w) W)⟩ _ rfl rfl
      first | rfl | go_simp | simp
    · -- 4: Op.load 3 (Operand.tmp 7)
      intro l hl vs W hS hR hp
      obtain rfl : l = [(3, 7)] := hl.symm.trans (by kernel_rfl)
      have p3 : vs 3 = _ := hp 3 (by decide) (by decide)
      clear hp hl
      refine opgoal (_) (some 8) rfl rfl fun K hK => ?_
      have f0 : W.cell? ⟨g, 0, none⟩ = some (.int .i64 x) := by rw [cell_of_row _ _ _ _ _ _ hS.2]; rfl
      refine Runs.mk ?_
      simp only [putAll]
      go_simp
      refine hK _ _ ?_ (fun _ => hS) ⟨fun h => absurd h (by decide), fun _ => ((fun w => Below.refl _ w) W)⟩ _ rfl rfl
      first | rfl | go_simp | simp
    · -- 5: Op.fieldAddr 51 (Operand.tmp 3) 1
      intro l hl vs W hS hR hp
      obtain rfl : l = [] := hl.symm.trans (by kernel_rfl)
      clear hp hl
      refine opgoal (_) (some 9) rfl rfl fun K hK => ?_
      refine Runs.mk ?_
      simp only [putAll]
      go_simp
      refine hK _ _ ?_ (fun _ => hS) ⟨fun h => absurd h (by decide), fun _ => ((fun w => Below.refl _ w) W)⟩ _ rfl rfl
      first | rfl | go_simp | simp
    · -- 6: Op.load 3 (Operand.tmp 9)
      intro l hl vs W hS hR hp
      obtain rfl : l = [(5, 9)] := hl.symm.trans (by kernel_rfl)
      have p5 : vs 5 = _ := hp 5 (by decide) (by decide)
      clear hp hl
      refine opgoal (_) (some 10) rfl rfl fun K hK => ?_
      have f1 : W.cell? ⟨g, 1, none⟩ = some (.int .i64 y) := by rw [cell_of_row _ _ _ _ _ _ hS.2]; rfl
      refine Runs.mk ?_
      simp only [putAll]
      go_simp
      refine hK _ _ ?_ (fun _ => hS) ⟨fun h => absurd h (by decide), fun _ => ((fun w => Below.refl _ w) W)⟩ _ rfl rfl
      first | rfl | go_simp | simp
    · -- 7: Op.fieldAddr 51 (Operand.tmp 3) 2
      intro l hl vs W hS hR hp
      obtain rfl : l = [] := hl.symm.trans (by kernel_rfl)
      clear hp hl
      refine opgoal (_) (some 11) rfl rfl fun K hK => ?_
      refine Runs.mk ?_
      simp only [putAll]
      go_simp
      refine hK _ _ ?_ (fun _ => hS) ⟨fun h => absurd h (by decide), fun _ => ((fun w => Below.refl _ w) W)⟩ _ rfl rfl
      first | rfl | go_simp | simp
    · -- 8: Op.load 3 (Operand.tmp 11)
      intro l hl vs W hS hR hp
      obtain rfl : l = [(7, 11)] := hl.symm.trans (by kernel_rfl)
      have p7 : vs 7 = _ := hp 7 (by decide) (by decide)
      clear hp hl
      refine opgoal (_) (some 12) rfl rfl fun K hK => ?_
      have f2 : W.cell? ⟨g, 2, none⟩ = some (.int .i64 z) := by rw [cell_of_row _ _ _ _ _ _ hS.2]; rfl
      refine Runs.mk ?_
      simp only [putAll]
      go_simp
      refine hK _ _ ?_ (fun _ => hS) ⟨fun h => absurd h (by decide), fun _ => ((fun w => Below.refl _ w) W)⟩ _ rfl rfl
      first | rfl | go_simp | simp
    · -- 9: Op.buildSlice 55 3 #[(0, Operand.tmp 8), (1, Operand.tmp 10), (2, Operand.tmp 12)]
      intro l hl vs W hS hR hp
      obtain rfl : l = [(3, 7), (4, 8), (5, 9), (6, 10), (7, 11), (8, 12)] := hl.symm.trans (by kernel_rfl)
      have p4 : vs 4 = _ := hp 4 (by decide) (by decide)
      have p6 : vs 6 = _ := hp 6 (by decide) (by decide)
      have p8 : vs 8 = _ := hp 8 (by decide) (by decide)
      clear hp hl
      refine opgoal (_) (some 13) rfl rfl fun K hK => ?_
      refine Runs.mk ?_
      simp only [putAll]
      go_simp
      have hb := below_alloc W (.cells #[.int .i64 x, .int .i64 y, .int .i64 z] 3)
      exact hK _ _ ⟨W.heap.size, rfl, by simp, fun hm => Nat.lt_irrefl _ (hS.1.lts _ hm), heap_alloc_new _ _⟩ (fun _ => ⟨hS.1.below hb, keep_block (.of_below (S := []) hb) hS.2 (by simp)⟩) ⟨fun h => absurd h (by decide), fun _ => hb⟩ _ rfl rfl
    · -- 10: Op.call { callee := Callee.value (Operand.func 76), args := #[Operand.tmp 6, Operand.tmp 13], argTypes := #[30, 55] }
      intro l hl vs W hS hR hp
      obtain rfl : l = [(0, 4), (1, 5), (2, 6), (3, 7), (4, 8), (5, 9), (6, 10), (7, 11), (8, 12), (9, 13)] := hl.symm.trans (by kernel_rfl)
      have p2 : vs 2 = _ := hp 2 (by decide) (by decide)
      have p9 : (fun v W => ∃ k, v = .slice (some ⟨k, 0, none⟩) 3 3 ∧ k < W.heap.size ∧ k ∉ blks b r ∧ W.heap[k]? = some (.cells #[.int .i64 x, .int .i64 y, .int .i64 z] 3 (0, 0))) (vs 9) W := hp 9 (by decide) (by decide)
      dsimp only at p9
      clear hp hl
      obtain ⟨k, q9, l9, n9, b9⟩ := p9
      refine opgoal (_) (some 14) rfl rfl fun K hK => ?_
      refine Runs.mk ?_
      simp only [putAll]
      go_simp
      refine (nums_any b r bs bad [x, y, z] (some ⟨k, 0, none⟩) 3 3 W hS.1 (rd_ints 3 b9 (by simp) rfl (by decide)) (fun _ o ho => by injection ho with ho; subst ho; exact n9) (by simpa using hlen)).mono ?_
      rintro e w' ⟨rfl, hw⟩
      go_simp
      exact hK _ _ (Wrs.step (hK0.out.trans hR) (.inl (mem_blks.2 (.inl rfl))) (fun k hk => .inl (mem_blks.2 (.inr hk))) hw) (fun h => absurd rfl h) ⟨fun _ => hw.keep, fun h => absurd (by decide) h⟩ _ rfl rfl
  · intro l hl vs W hR hp
    obtain rfl : l = [(0, 4), (1, 5), (2, 6), (3, 7), (4, 8), (5, 9), (6, 10), (7, 11), (8, 12), (9, 13), (10, 14)] := hl.symm.trans (by kernel_rfl)
    have p0 : vs 0 = _ := hp 0 (by decide) (by decide)
    have p1 : vs 1 = _ := hp 1 (by decide) (by decide)
    have p2 : vs 2 = _ := hp 2 (by decide) (by decide)
    have p3 : vs 3 = _ := hp 3 (by decide) (by decide)
    have p4 : vs 4 = _ := hp 4 (by decide) (by decide)
    have p5 : vs 5 = _ := hp 5 (by decide) (by decide)
    have p6 : vs 6 = _ := hp 6 (by decide) (by decide)
    have p7 : vs 7 = _ := hp 7 (by decide) (by decide)
    have p8 : vs 8 = _ := hp 8 (by decide) (by decide)
    have p10 : (fun v W => Wrs w b (blks b r) (bs ++ numsB [x, y, z]) bad W) (vs 10) W := hp 10 (by decide) (by decide)
    dsimp only at p10
    clear hp hl
    simp only [putAll_mk, setAll, List.setIfInBounds_toArray, List.set_cons_succ, List.set_cons_zero, p0, p1, p2, p3, p4, p5, p6, p7, p8]
    have HE := Lib.hid p10
    clear p10 hR
    go_wp2
    go_end0
    exact ⟨rfl, HE.out⟩
set_option maxHeartbeats 1000000 in
theorem newreader (s : ByteArray) (w : World) : Calls Try.prog 46 #[.string s] w fun e w' => e = .returned (.pointer (some ⟨w.heap.size + 1, 0, none⟩)) ∧ (w.alloc (.cells #[.string s, .bool false] 128)).alloc (.cells #[.pointer (some ⟨w.heap.size, 0, none⟩)] 78) = w' := by
  go_enter Try.func46, Try.ntmps46
  go_wp2_with fail
  refine (newreader_any s w).mono ?_
  rintro e w1 ⟨rfl, hw⟩
  have hsz : w1.heap.size = w.heap.size + 1 := by rw [← hw]; simp
  have HW := Lib.hid hw
  clear hw
  go_wp2
  go_ret
  exact ⟨rfl, by rw [HW.out]⟩
/-- an item.Reader, its wire.Reader, and the block of what is read. -/
structure RdT (bi b g : Nat) (W : World) (o : ByteArray × Bool) : Prop where
  hbi : W.heap[bi]? = some (.cells #[.pointer (some ⟨b, 0, none⟩)] 78 (0, 0))
  rd : Rdr W b o.1 o.2
  out : W.heap[g]? = some (.cells #[.int .i64 0, .int .i64 0, .int .i64 0] 51 (0, 0))
  ne : bi ≠ b
  ne2 : b ≠ g
theorem RdT.step {bi b g : Nat} {W W' : World} {o o' : ByteArray × Bool} (h : RdT bi b g W o) (hr : Rdr W' b o'.1 o'.2) (hk : Keep [b] W W') : RdT bi b g W' o' :=
  ⟨keep_block hk h.hbi (by simpa using h.ne), hr, keep_block hk h.out (by simpa using fun e => h.ne2 e.symm), h.ne, h.ne2⟩
def pick3 {α : Type} (f1 f2 f3 : Bool) (o0 o1 o2 o3 : α) : α := if f3 then o3 else if f2 then o2 else if f1 then o1 else o0
/-- the item.Reader's own block. -/
def Ird (W : World) (bi b : Nat) : Prop := W.heap[bi]? = some (.cells #[.pointer (some ⟨b, 0, none⟩)] 78 (0, 0))
/-- a number is taken. -/
def nxt (o : ByteArray × Bool) : ByteArray × Bool := (takeS 8 o.1 o.2, takeQ 8 o.1 o.2)
def nv (o : ByteArray × Bool) : Int := wrap64 (numT 8 o.1 o.2 : Nat)
theorem nxt_size (o : ByteArray × Bool) : (nxt o).1.size ≤ o.1.size := by
  unfold nxt takeS
  split
  · exact Nat.le_refl _
  · rw [ByteArray.size_extract]; omega
set_option maxHeartbeats 4000000 in
set_option maxRecDepth 100000 in
theorem tid_read (bi b : Nat) (o0 : ByteArray × Bool) (w : World) (hi : Ird w bi b) (hr : Rdr w b o0.1 o0.2) (hne : bi ≠ b) (hs : o0.1.size ≤ 140737488355328) :
    Calls Try.prog 47 #[.pointer (some ⟨bi, 0, none⟩)] w fun e w' => e = .returned (.agg #[.int .i64 (nv o0), .int .i64 (nv (nxt o0)), .int .i64 (nv (nxt (nxt o0)))]) ∧ Rdr w' b (nxt (nxt (nxt o0))).1 (nxt (nxt (nxt o0))).2 ∧ Keep [b] w w' := by
  obtain ⟨o1, ho1⟩ : ∃ o1, Hid (nxt o0 = o1) := ⟨_, Lib.hid rfl⟩
  obtain ⟨o2, ho2⟩ : ∃ o2, Hid (nxt o1 = o2) := ⟨_, Lib.hid rfl⟩
  obtain ⟨o3, ho3⟩ : ∃ o3, Hid (nxt o2 = o3) := ⟨_, Lib.hid rfl⟩
  rw [ho1.out, ho2.out, ho3.out]
  obtain ⟨n1, hn1⟩ : ∃ n, Hid (nv o0 = n) := ⟨_, Lib.hid rfl⟩
  obtain ⟨n2, hn2⟩ : ∃ n, Hid (nv o1 = n) := ⟨_, Lib.hid rfl⟩
  obtain ⟨n3, hn3⟩ : ∃ n, Hid (nv o2 = n) := ⟨_, Lib.hid rfl⟩
  rw [hn1.out, hn2.out, hn3.out]
  have hz0 : Hid (o0.1.size ≤ 9223372036854775807) := Lib.hid (by omega)
  have hz1 : Hid (o1.1.size ≤ 9223372036854775807) := Lib.hid (by rw [← ho1.out]; exact Nat.le_trans (nxt_size _) hz0.out)
  have hz2 : Hid (o2.1.size ≤ 9223372036854775807) := Lib.hid (by rw [← ho2.out]; exact Nat.le_trans (nxt_size _) hz1.out)
  have hs1 : Hid (takeS 8 o0.1 o0.2 = o1.1) := Lib.hid (by rw [← ho1.out]; rfl)
  have hq1 : Hid (takeQ 8 o0.1 o0.2 = o1.2) := Lib.hid (by rw [← ho1.out]; rfl)
  have hs2 : Hid (takeS 8 o1.1 o1.2 = o2.1) := Lib.hid (by rw [← ho2.out]; rfl)
  have hq2 : Hid (takeQ 8 o1.1 o1.2 = o2.2) := Lib.hid (by rw [← ho2.out]; rfl)
  have hs3 : Hid (takeS 8 o2.1 o2.2 = o3.1) := Lib.hid (by rw [← ho3.out]; rfl)
  have hq3 : Hid (takeQ 8 o2.1 o2.2 = o3.2) := Lib.hid (by rw [← ho3.out]; rfl)
  unfold nv at hn1 hn2 hn3
  have hil : bi < w.heap.size := (Array.getElem?_eq_some_iff.1 hi).1
  have hbl := hr.lt
  obtain ⟨g, hg⟩ : ∃ g, Hid (w.heap.size = g) := ⟨_, Lib.hid rfl⟩
  obtain ⟨W0, hW0⟩ : ∃ W0, Hid (w.alloc (.cells #[.int .i64 0, .int .i64 0, .int .i64 0] 51) = W0) := ⟨_, Lib.hid rfl⟩
  have hb0 : Below w.heap.size w W0 := by rw [← hW0.out]; exact below_alloc _ _
  have hS0 : RdT bi b g W0.drew o0 := ⟨keep_block (.of_below (S := []) hb0.drew) hi (by simp), hr.below hb0.drew, by
    show W0.heap[g]? = _
    rw [← hW0.out, ← hg.out]; exact heap_alloc_new _ _, hne, by rw [← hg.out]; omega⟩
  have hgb : bi ≠ g := by rw [← hg.out]; omega
  have hI : Hid (∀ W, Keep [b, g] W0.drew W → W.cell? ⟨bi, 0, none⟩ = some (.pointer (some ⟨b, 0, none⟩))) := Lib.hid fun W hk => by
    have := keep_block hk hS0.hbi (by simp; exact ⟨hne, hgb⟩)
    rw [cell_of_row _ _ _ _ _ _ this]; rfl
  have hK0 : Hid (∀ W, Keep [b, g] W0.drew W → Keep [b] w W) := Lib.hid fun W hk => by
    have hd := hb0.drew
    refine ⟨hk.os.trans hd.os, hk.tape.trans hd.tape, hk.output.trans hd.output, Nat.le_trans hd.size hk.size, fun k hk1 hk2 => ?_⟩
    exact (hk.block k (Nat.lt_of_lt_of_le hk1 hd.size) (by simp at hk2 ⊢; exact ⟨hk2, by have := hg.out; omega⟩)).trans (hd.block k hk1)
  clear hi hr hil hbl hb0 hs
  go_enter Try.func47, Try.ntmps47
  go_wp2_with fail
  rw [hW0.out, hg.out]
  refine wp_region_done (fun dnf => fun W => (dnf 16) = false → RdT bi b g W (pick3 (dnf 4) (dnf 9) (dnf 14) o0 o1 o2 o3)) (fun u v => Keep [b, g] u v) (fun k u v => (k = 4 → (fun u v => Keep [b] u v) u v) ∧ (k = 9 → (fun u v => Keep [b] u v) u v) ∧ (k = 14 → (fun u v => Keep [b] u v) u v) ∧ (k = 16 → (fun u v => Keep [g] u v) u v) ∧ (¬ k = 4 → ¬ k = 9 → ¬ k = 14 → ¬ k = 16 → (fun u v => Below u.heap.size u v) u v)) (fun a i => match i with
      | 0 => (fun v _ => v = a.tmps.getD 0 undef)
      | 1 => (fun v _ => v = .pointer (some ⟨bi, 0, none⟩))
      | 2 => (fun v _ => v = .pointer (some ⟨bi, 0, none⟩))
      | 3 => (fun v _ => v = .pointer (some ⟨b, 0, none⟩))
      | 4 => (fun v _ => v = .int .i64 n1)
      | 5 => (fun v _ => v = a.tmps.getD 0 undef)
      | 6 => (fun v _ => v = .pointer (some ⟨bi, 0, none⟩))
      | 7 => (fun v _ => v = .pointer (some ⟨bi, 0, none⟩))
      | 8 => (fun v _ => v = .pointer (some ⟨b, 0, none⟩))
      | 9 => (fun v _ => v = .int .i64 n2)
      | 10 => (fun v _ => v = a.tmps.getD 0 undef)
      | 11 => (fun v _ => v = .pointer (some ⟨bi, 0, none⟩))
      | 12 => (fun v _ => v = .pointer (some ⟨bi, 0, none⟩))
      | 13 => (fun v _ => v = .pointer (some ⟨b, 0, none⟩))
      | 14 => (fun v _ => v = .int .i64 n3)
      | 15 => (fun v _ => v = .agg #[.int .i64 n1, .int .i64 n2, .int .i64 n3])
      | 16 => (fun v W => W.heap[g]? = some (.cells #[.int .i64 n1, .int .i64 n2, .int .i64 n3] 51 (0, 0)) ∧ Rdr W b o3.1 o3.2)
      | _ => (fun _ _ => True)) #[0, 1, 3, 7, 15, 0, 32, 96, 224, 511, 0, 1024, 3072, 7168, 16383, 32767, 65535] #[0, 1, 2, 4, 8, 0, 32, 64, 128, 256, 0, 1024, 2048, 4096, 8192, 16912, 32768] 131071 (by kernel_rfl) 17 rfl (fun m hm => by subst hm; kernel_rfl) (by kernel_rfl) (fun w => Keep.refl _ w) (fun u v w h1 h2 => h1.trans h2) ?_ ?_ (fun _ => hS0) ?_ ?_
  · intro k u v hk hr
    by_cases hs4 : k = 4
    · have h := hr.1 hs4; exact h.mono (by simp)
    by_cases hs9 : k = 9
    · have h := hr.2.1 hs9; exact h.mono (by simp)
    by_cases hs14 : k = 14
    · have h := hr.2.2.1 hs14; exact h.mono (by simp)
    by_cases hs16 : k = 16
    · have h := hr.2.2.2.1 hs16; exact h.mono (by simp)
    have h := hr.2.2.2.2 hs4 hs9 hs14 hs16; exact Keep.of_below h
  · intro i hi
    rcases (by omega : i = 0 ∨ i = 1 ∨ i = 2 ∨ i = 3 ∨ i = 4 ∨ i = 5 ∨ i = 6 ∨ i = 7 ∨ i = 8 ∨ i = 9 ∨ i = 10 ∨ i = 11 ∨ i = 12 ∨ i = 13 ∨ i = 14 ∨ i = 15 ∨ i = 16) with rfl | rfl | rfl | rfl | rfl | rfl | rfl | rfl | rfl | rfl | rfl | rfl | rfl | rfl | rfl | rfl | rfl
    · intro k hk y hy hyt v w w' h hr
      exact h
    · intro k hk y hy hyt v w w' h hr
      exact h
    · intro k hk y hy hyt v w w' h hr
      exact h
    · intro k hk y hy hyt v w w' h hr
      exact h
    · intro k hk y hy hyt v w w' h hr
      exact h
    · intro k hk y hy hyt v w w' h hr
      exact h
    · intro k hk y hy hyt v w w' h hr
      exact h
    · intro k hk y hy hyt v w w' h hr
      exact h
    · intro k hk y hy hyt v w w' h hr
      exact h
    · intro k hk y hy hyt v w w' h hr
      exact h
    · intro k hk y hy hyt v w w' h hr
      exact h
    · intro k hk y hy hyt v w w' h hr
      exact h
    · intro k hk y hy hyt v w w' h hr
      exact h
    · intro k hk y hy hyt v w w' h hr
      exact h
    · intro k hk y hy hyt v w w' h hr
      exact h
    · intro k hk y hy hyt v w w' h hr
      exact h
    · intro k hk y hy hyt v w w' h hr
      by_cases hs4 : k = 4
      · have hr0 := hr.1 hs4
        subst hs4
        exact absurd (hy.trans hyt) (ne_true_of_eq_false (by kernel_rfl))
      by_cases hs9 : k = 9
      · have hr0 := hr.2.1 hs9
        subst hs9
        exact absurd (hy.trans hyt) (ne_true_of_eq_false (by kernel_rfl))
      by_cases hs14 : k = 14
      · have hr0 := hr.2.2.1 hs14
        subst hs14
        exact absurd (hy.trans hyt) (ne_true_of_eq_false (by kernel_rfl))
      by_cases hs16 : k = 16
      · have hr0 := hr.2.2.2.1 hs16
        subst hs16
        exact absurd (hy.trans hyt) (ne_true_of_eq_false (by kernel_rfl))
      have hr := hr.2.2.2.2 hs4 hs9 hs14 hs16
      exact ⟨keep_block (.of_below (S := []) hr) h.1 (by simp), h.2.below hr⟩
  · intro i hi
    rcases (by omega : i = 0 ∨ i = 1 ∨ i = 2 ∨ i = 3 ∨ i = 4 ∨ i = 5 ∨ i = 6 ∨ i = 7 ∨ i = 8 ∨ i = 9 ∨ i = 10 ∨ i = 11 ∨ i = 12 ∨ i = 13 ∨ i = 14 ∨ i = 15 ∨ i = 16) with rfl | rfl | rfl | rfl | rfl | rfl | rfl | rfl | rfl | rfl | rfl | rfl | rfl | rfl | rfl | rfl | rfl
    · -- 0: Op.move (Operand.tmp 0)
      intro l hl vs W dn e1 e2 e3 hS hR hp
      have f4 : dn 4 = false := e3 4 (by kernel_rfl)
      have f9 : dn 9 = false := e3 9 (by kernel_rfl)
      have f14 : dn 14 = false := e3 14 (by kernel_rfl)
      have f16 : dn 16 = false := e3 16 (by kernel_rfl)
      replace hS : (fun W => (dn 16) = false → RdT bi b g W (pick3 (dn 4) (dn 9) (dn 14) o0 o1 o2 o3)) W := hS
      rw [f4, f9, f14, f16] at hS
      have g4 : (dn 4 || ((0 : Nat) == 4)) = false := by rw [f4]; rfl
      have g9 : (dn 9 || ((0 : Nat) == 9)) = false := by rw [f9]; rfl
      have g14 : (dn 14 || ((0 : Nat) == 14)) = false := by rw [f14]; rfl
      have g16 : (dn 16 || ((0 : Nat) == 16)) = false := by rw [f16]; rfl
      refine OpGoal.imp (S1 := fun W => false = false → RdT bi b g W (pick3 false false false o0 o1 o2 o3)) (fun W' h => ?_) ?_
      · show (fun W => (dn 16 || ((0 : Nat) == 16)) = false → RdT bi b g W (pick3 (dn 4 || ((0 : Nat) == 4)) (dn 9 || ((0 : Nat) == 9)) (dn 14 || ((0 : Nat) == 14)) o0 o1 o2 o3)) W'
        rw [g4, g9, g14, g16]
        exact h
      clear g4 g9 g14 g16 e1 e2 e3
      obtain rfl : l = [] := hl.symm.trans (by kernel_rfl)
      clear hp hl
      refine opgoal (_) (some 3) rfl rfl fun K hK => ?_
      refine Runs.mk ?_
      simp only [putAll]
      go_simp
      refine hK _ _ ?_ hS ⟨fun h => absurd h (by decide), fun h => absurd h (by decide), fun h => absurd h (by decide), fun h => absurd h (by decide), fun h4 h9 h14 h16 => ((fun w => Below.refl _ w) W)⟩ _ rfl rfl
      first | rfl | go_simp | simp
    · -- 1: Op.nilCheck (Operand.tmp 3)
      intro l hl vs W dn e1 e2 e3 hS hR hp
      have f4 : dn 4 = false := e3 4 (by kernel_rfl)
      have f9 : dn 9 = false := e3 9 (by kernel_rfl)
      have f14 : dn 14 = false := e3 14 (by kernel_rfl)
      have f16 : dn 16 = false := e3 16 (by kernel_rfl)
      replace hS : (fun W => (dn 16) = false → RdT bi b g W (pick3 (dn 4) (dn 9) (dn 14) o0 o1 o2 o3)) W := hS
      rw [f4, f9, f14, f16] at hS
      have g4 : (dn 4 || ((1 : Nat) == 4)) = false := by rw [f4]; rfl
      have g9 : (dn 9 || ((1 : Nat) == 9)) = false := by rw [f9]; rfl
      have g14 : (dn 14 || ((1 : Nat) == 14)) = false := by rw [f14]; rfl
      have g16 : (dn 16 || ((1 : Nat) == 16)) = false := by rw [f16]; rfl
      refine OpGoal.imp (S1 := fun W => false = false → RdT bi b g W (pick3 false false false o0 o1 o2 o3)) (fun W' h => ?_) ?_
      · show (fun W => (dn 16 || ((1 : Nat) == 16)) = false → RdT bi b g W (pick3 (dn 4 || ((1 : Nat) == 4)) (dn 9 || ((1 : Nat) == 9)) (dn 14 || ((1 : Nat) == 14)) o0 o1 o2 o3)) W'
        rw [g4, g9, g14, g16]
        exact h
      clear g4 g9 g14 g16 e1 e2 e3
      obtain rfl : l = [(0, 3)] := hl.symm.trans (by kernel_rfl)
      have p0 : vs 0 = _ := hp 0 (by decide) (by decide)
      clear hp hl
      refine opgoal (_) (some 4) rfl rfl fun K hK => ?_
      refine Runs.mk ?_
      simp only [putAll]
      go_simp
      refine hK _ _ ?_ hS ⟨fun h => absurd h (by decide), fun h => absurd h (by decide), fun h => absurd h (by decide), fun h => absurd h (by decide), fun h4 h9 h14 h16 => ((fun w => Below.refl _ w) W)⟩ _ rfl rfl
      first | rfl | go_simp | simp
    · -- 2: Op.fieldAddr 78 (Operand.tmp 4) 0
      intro l hl vs W dn e1 e2 e3 hS hR hp
      have f4 : dn 4 = false := e3 4 (by kernel_rfl)
      have f9 : dn 9 = false := e3 9 (by kernel_rfl)
      have f14 : dn 14 = false := e3 14 (by kernel_rfl)
      have f16 : dn 16 = false := e3 16 (by kernel_rfl)
      replace hS : (fun W => (dn 16) = false → RdT bi b g W (pick3 (dn 4) (dn 9) (dn 14) o0 o1 o2 o3)) W := hS
      rw [f4, f9, f14, f16] at hS
      have g4 : (dn 4 || ((2 : Nat) == 4)) = false := by rw [f4]; rfl
      have g9 : (dn 9 || ((2 : Nat) == 9)) = false := by rw [f9]; rfl
      have g14 : (dn 14 || ((2 : Nat) == 14)) = false := by rw [f14]; rfl
      have g16 : (dn 16 || ((2 : Nat) == 16)) = false := by rw [f16]; rfl
      refine OpGoal.imp (S1 := fun W => false = false → RdT bi b g W (pick3 false false false o0 o1 o2 o3)) (fun W' h => ?_) ?_
      · show (fun W => (dn 16 || ((2 : Nat) == 16)) = false → RdT bi b g W (pick3 (dn 4 || ((2 : Nat) == 4)) (dn 9 || ((2 : Nat) == 9)) (dn 14 || ((2 : Nat) == 14)) o0 o1 o2 o3)) W'
        rw [g4, g9, g14, g16]
        exact h
      clear g4 g9 g14 g16 e1 e2 e3
      obtain rfl : l = [(0, 3), (1, 4)] := hl.symm.trans (by kernel_rfl)
      have p1 : vs 1 = _ := hp 1 (by decide) (by decide)
      clear hp hl
      refine opgoal (_) (some 5) rfl rfl fun K hK => ?_
      refine Runs.mk ?_
      simp only [putAll]
      go_simp
      refine hK _ _ ?_ hS ⟨fun h => absurd h (by decide), fun h => absurd h (by decide), fun h => absurd h (by decide), fun h => absurd h (by decide), fun h4 h9 h14 h16 => ((fun w => Below.refl _ w) W)⟩ _ rfl rfl
      first | rfl | go_simp | simp
    · -- 3: Op.load 37 (Operand.tmp 5)
      intro l hl vs W dn e1 e2 e3 hS hR hp
      have f4 : dn 4 = false := e3 4 (by kernel_rfl)
      have f9 : dn 9 = false := e3 9 (by kernel_rfl)
      have f14 : dn 14 = false := e3 14 (by kernel_rfl)
      have f16 : dn 16 = false := e3 16 (by kernel_rfl)
      replace hS : (fun W => (dn 16) = false → RdT bi b g W (pick3 (dn 4) (dn 9) (dn 14) o0 o1 o2 o3)) W := hS
      rw [f4, f9, f14, f16] at hS
      have g4 : (dn 4 || ((3 : Nat) == 4)) = false := by rw [f4]; rfl
      have g9 : (dn 9 || ((3 : Nat) == 9)) = false := by rw [f9]; rfl
      have g14 : (dn 14 || ((3 : Nat) == 14)) = false := by rw [f14]; rfl
      have g16 : (dn 16 || ((3 : Nat) == 16)) = false := by rw [f16]; rfl
      refine OpGoal.imp (S1 := fun W => false = false → RdT bi b g W (pick3 false false false o0 o1 o2 o3)) (fun W' h => ?_) ?_
      · show (fun W => (dn 16 || ((3 : Nat) == 16)) = false → RdT bi b g W (pick3 (dn 4 || ((3 : Nat) == 4)) (dn 9 || ((3 : Nat) == 9)) (dn 14 || ((3 : Nat) == 14)) o0 o1 o2 o3)) W'
        rw [g4, g9, g14, g16]
        exact h
      clear g4 g9 g14 g16 e1 e2 e3
      obtain rfl : l = [(0, 3), (1, 4), (2, 5)] := hl.symm.trans (by kernel_rfl)
      have p2 : vs 2 = _ := hp 2 (by decide) (by decide)
      clear hp hl
      refine opgoal (_) (some 6) rfl rfl fun K hK => ?_
      have hi0 := hI.out W hR
      refine Runs.mk ?_
      simp only [putAll]
      go_simp
      refine hK _ _ ?_ hS ⟨fun h => absurd h (by decide), fun h => absurd h (by decide), fun h => absurd h (by decide), fun h => absurd h (by decide), fun h4 h9 h14 h16 => ((fun w => Below.refl _ w) W)⟩ _ rfl rfl
      first | rfl | go_simp | simp
    · -- 4: Op.call { callee := Callee.value (Operand.func 85), args := #[Operand.tmp 6], argTypes := #[37] }
      intro l hl vs W dn e1 e2 e3 hS hR hp
      have f4 : dn 4 = false := e1
      have f9 : dn 9 = false := e3 9 (by kernel_rfl)
      have f14 : dn 14 = false := e3 14 (by kernel_rfl)
      have f16 : dn 16 = false := e3 16 (by kernel_rfl)
      replace hS : (fun W => (dn 16) = false → RdT bi b g W (pick3 (dn 4) (dn 9) (dn 14) o0 o1 o2 o3)) W := hS
      rw [f4, f9, f14, f16] at hS
      have g4 : (dn 4 || ((4 : Nat) == 4)) = true := by rw [f4]; rfl
      have g9 : (dn 9 || ((4 : Nat) == 9)) = false := by rw [f9]; rfl
      have g14 : (dn 14 || ((4 : Nat) == 14)) = false := by rw [f14]; rfl
      have g16 : (dn 16 || ((4 : Nat) == 16)) = false := by rw [f16]; rfl
      refine OpGoal.imp (S1 := fun W => false = false → RdT bi b g W (pick3 true false false o0 o1 o2 o3)) (fun W' h => ?_) ?_
      · show (fun W => (dn 16 || ((4 : Nat) == 16)) = false → RdT bi b g W (pick3 (dn 4 || ((4 : Nat) == 4)) (dn 9 || ((4 : Nat) == 9)) (dn 14 || ((4 : Nat) == 14)) o0 o1 o2 o3)) W'
        rw [g4, g9, g14, g16]
        exact h
      clear g4 g9 g14 g16 e1 e2 e3
      obtain rfl : l = [(0, 3), (1, 4), (2, 5), (3, 6)] := hl.symm.trans (by kernel_rfl)
      have p3 : vs 3 = _ := hp 3 (by decide) (by decide)
      clear hp hl
      refine opgoal (_) (some 7) rfl rfl fun K hK => ?_
      refine Runs.mk ?_
      simp only [putAll]
      go_simp
      refine (num_read b o0.1 o0.2 W (hS rfl).rd hz0.out).mono ?_
      rintro e w' ⟨he, hr, hk⟩
      rw [hn1.out] at he
      subst he
      rw [hs1.out, hq1.out] at hr
      go_simp
      exact hK _ _ rfl (fun _ => (hS rfl).step hr hk) ⟨fun _ => hk, fun h => absurd h (by decide), fun h => absurd h (by decide), fun h => absurd h (by decide), fun h4 h9 h14 h16 => absurd rfl h4⟩ _ rfl rfl
    · -- 5: Op.move (Operand.tmp 0)
      intro l hl vs W dn e1 e2 e3 hS hR hp
      have f4 : dn 4 = dn 4 := rfl
      have f9 : dn 9 = false := e3 9 (by kernel_rfl)
      have f14 : dn 14 = false := e3 14 (by kernel_rfl)
      have f16 : dn 16 = false := e3 16 (by kernel_rfl)
      replace hS : (fun W => (dn 16) = false → RdT bi b g W (pick3 (dn 4) (dn 9) (dn 14) o0 o1 o2 o3)) W := hS
      rw [f9, f14, f16] at hS
      have g4 : (dn 4 || ((5 : Nat) == 4)) = dn 4 := Bool.or_false _
      have g9 : (dn 9 || ((5 : Nat) == 9)) = false := by rw [f9]; rfl
      have g14 : (dn 14 || ((5 : Nat) == 14)) = false := by rw [f14]; rfl
      have g16 : (dn 16 || ((5 : Nat) == 16)) = false := by rw [f16]; rfl
      refine OpGoal.imp (S1 := fun W => false = false → RdT bi b g W (pick3 (dn 4) false false o0 o1 o2 o3)) (fun W' h => ?_) ?_
      · show (fun W => (dn 16 || ((5 : Nat) == 16)) = false → RdT bi b g W (pick3 (dn 4 || ((5 : Nat) == 4)) (dn 9 || ((5 : Nat) == 9)) (dn 14 || ((5 : Nat) == 14)) o0 o1 o2 o3)) W'
        rw [g4, g9, g14, g16]
        exact h
      clear g4 g9 g14 g16 e1 e2 e3
      obtain rfl : l = [] := hl.symm.trans (by kernel_rfl)
      clear hp hl
      refine opgoal (_) (some 8) rfl rfl fun K hK => ?_
      refine Runs.mk ?_
      simp only [putAll]
      go_simp
      refine hK _ _ ?_ hS ⟨fun h => absurd h (by decide), fun h => absurd h (by decide), fun h => absurd h (by decide), fun h => absurd h (by decide), fun h4 h9 h14 h16 => ((fun w => Below.refl _ w) W)⟩ _ rfl rfl
      first | rfl | go_simp | simp
    · -- 6: Op.nilCheck (Operand.tmp 8)
      intro l hl vs W dn e1 e2 e3 hS hR hp
      have f4 : dn 4 = dn 4 := rfl
      have f9 : dn 9 = false := e3 9 (by kernel_rfl)
      have f14 : dn 14 = false := e3 14 (by kernel_rfl)
      have f16 : dn 16 = false := e3 16 (by kernel_rfl)
      replace hS : (fun W => (dn 16) = false → RdT bi b g W (pick3 (dn 4) (dn 9) (dn 14) o0 o1 o2 o3)) W := hS
      rw [f9, f14, f16] at hS
      have g4 : (dn 4 || ((6 : Nat) == 4)) = dn 4 := Bool.or_false _
      have g9 : (dn 9 || ((6 : Nat) == 9)) = false := by rw [f9]; rfl
      have g14 : (dn 14 || ((6 : Nat) == 14)) = false := by rw [f14]; rfl
      have g16 : (dn 16 || ((6 : Nat) == 16)) = false := by rw [f16]; rfl
      refine OpGoal.imp (S1 := fun W => false = false → RdT bi b g W (pick3 (dn 4) false false o0 o1 o2 o3)) (fun W' h => ?_) ?_
      · show (fun W => (dn 16 || ((6 : Nat) == 16)) = false → RdT bi b g W (pick3 (dn 4 || ((6 : Nat) == 4)) (dn 9 || ((6 : Nat) == 9)) (dn 14 || ((6 : Nat) == 14)) o0 o1 o2 o3)) W'
        rw [g4, g9, g14, g16]
        exact h
      clear g4 g9 g14 g16 e1 e2 e3
      obtain rfl : l = [(5, 8)] := hl.symm.trans (by kernel_rfl)
      have p5 : vs 5 = _ := hp 5 (by decide) (by decide)
      clear hp hl
      refine opgoal (_) (some 9) rfl rfl fun K hK => ?_
      refine Runs.mk ?_
      simp only [putAll]
      go_simp
      refine hK _ _ ?_ hS ⟨fun h => absurd h (by decide), fun h => absurd h (by decide), fun h => absurd h (by decide), fun h => absurd h (by decide), fun h4 h9 h14 h16 => ((fun w => Below.refl _ w) W)⟩ _ rfl rfl
      first | rfl | go_simp | simp
    · -- 7: Op.fieldAddr 78 (Operand.tmp 9) 0
      intro l hl vs W dn e1 e2 e3 hS hR hp
      have f4 : dn 4 = dn 4 := rfl
      have f9 : dn 9 = false := e3 9 (by kernel_rfl)
      have f14 : dn 14 = false := e3 14 (by kernel_rfl)
      have f16 : dn 16 = false := e3 16 (by kernel_rfl)
      replace hS : (fun W => (dn 16) = false → RdT bi b g W (pick3 (dn 4) (dn 9) (dn 14) o0 o1 o2 o3)) W := hS
      rw [f9, f14, f16] at hS
      have g4 : (dn 4 || ((7 : Nat) == 4)) = dn 4 := Bool.or_false _
      have g9 : (dn 9 || ((7 : Nat) == 9)) = false := by rw [f9]; rfl
      have g14 : (dn 14 || ((7 : Nat) == 14)) = false := by rw [f14]; rfl
      have g16 : (dn 16 || ((7 : Nat) == 16)) = false := by rw [f16]; rfl
      refine OpGoal.imp (S1 := fun W => false = false → RdT bi b g W (pick3 (dn 4) false false o0 o1 o2 o3)) (fun W' h => ?_) ?_
      · show (fun W => (dn 16 || ((7 : Nat) == 16)) = false → RdT bi b g W (pick3 (dn 4 || ((7 : Nat) == 4)) (dn 9 || ((7 : Nat) == 9)) (dn 14 || ((7 : Nat) == 14)) o0 o1 o2 o3)) W'
        rw [g4, g9, g14, g16]
        exact h
      clear g4 g9 g14 g16 e1 e2 e3
      obtain rfl : l = [(5, 8), (6, 9)] := hl.symm.trans (by kernel_rfl)
      have p6 : vs 6 = _ := hp 6 (by decide) (by decide)
      clear hp hl
      refine opgoal (_) (some 10) rfl rfl fun K hK => ?_
      refine Runs.mk ?_
      simp only [putAll]
      go_simp
      refine hK _ _ ?_ hS ⟨fun h => absurd h (by decide), fun h => absurd h (by decide), fun h => absurd h (by decide), fun h => absurd h (by decide), fun h4 h9 h14 h16 => ((fun w => Below.refl _ w) W)⟩ _ rfl rfl
      first | rfl | go_simp | simp
    · -- 8: Op.load 37 (Operand.tmp 10)
      intro l hl vs W dn e1 e2 e3 hS hR hp
      have f4 : dn 4 = dn 4 := rfl
      have f9 : dn 9 = false := e3 9 (by kernel_rfl)
      have f14 : dn 14 = false := e3 14 (by kernel_rfl)
      have f16 : dn 16 = false := e3 16 (by kernel_rfl)
      replace hS : (fun W => (dn 16) = false → RdT bi b g W (pick3 (dn 4) (dn 9) (dn 14) o0 o1 o2 o3)) W := hS
      rw [f9, f14, f16] at hS
      have g4 : (dn 4 || ((8 : Nat) == 4)) = dn 4 := Bool.or_false _
      have g9 : (dn 9 || ((8 : Nat) == 9)) = false := by rw [f9]; rfl
      have g14 : (dn 14 || ((8 : Nat) == 14)) = false := by rw [f14]; rfl
      have g16 : (dn 16 || ((8 : Nat) == 16)) = false := by rw [f16]; rfl
      refine OpGoal.imp (S1 := fun W => false = false → RdT bi b g W (pick3 (dn 4) false false o0 o1 o2 o3)) (fun W' h => ?_) ?_
      · show (fun W => (dn 16 || ((8 : Nat) == 16)) = false → RdT bi b g W (pick3 (dn 4 || ((8 : Nat) == 4)) (dn 9 || ((8 : Nat) == 9)) (dn 14 || ((8 : Nat) == 14)) o0 o1 o2 o3)) W'
        rw [g4, g9, g14, g16]
        exact h
      clear g4 g9 g14 g16 e1 e2 e3
      obtain rfl : l = [(5, 8), (6, 9), (7, 10)] := hl.symm.trans (by kernel_rfl)
      have p7 : vs 7 = _ := hp 7 (by decide) (by decide)
      clear hp hl
      refine opgoal (_) (some 11) rfl rfl fun K hK => ?_
      have hi0 := hI.out W hR
      refine Runs.mk ?_
      simp only [putAll]
      go_simp
      refine hK _ _ ?_ hS ⟨fun h => absurd h (by decide), fun h => absurd h (by decide), fun h => absurd h (by decide), fun h => absurd h (by decide), fun h4 h9 h14 h16 => ((fun w => Below.refl _ w) W)⟩ _ rfl rfl
      first | rfl | go_simp | simp
    · -- 9: Op.call { callee := Callee.value (Operand.func 85), args := #[Operand.tmp 11], argTypes := #[37] }
      intro l hl vs W dn e1 e2 e3 hS hR hp
      have f4 : dn 4 = true := e2 4 (by kernel_rfl)
      have f9 : dn 9 = false := e1
      have f14 : dn 14 = false := e3 14 (by kernel_rfl)
      have f16 : dn 16 = false := e3 16 (by kernel_rfl)
      replace hS : (fun W => (dn 16) = false → RdT bi b g W (pick3 (dn 4) (dn 9) (dn 14) o0 o1 o2 o3)) W := hS
      rw [f4, f9, f14, f16] at hS
      have g4 : (dn 4 || ((9 : Nat) == 4)) = true := by rw [f4]; rfl
      have g9 : (dn 9 || ((9 : Nat) == 9)) = true := by rw [f9]; rfl
      have g14 : (dn 14 || ((9 : Nat) == 14)) = false := by rw [f14]; rfl
      have g16 : (dn 16 || ((9 : Nat) == 16)) = false := by rw [f16]; rfl
      refine OpGoal.imp (S1 := fun W => false = false → RdT bi b g W (pick3 true true false o0 o1 o2 o3)) (fun W' h => ?_) ?_
      · show (fun W => (dn 16 || ((9 : Nat) == 16)) = false → RdT bi b g W (pick3 (dn 4 || ((9 : Nat) == 4)) (dn 9 || ((9 : Nat) == 9)) (dn 14 || ((9 : Nat) == 14)) o0 o1 o2 o3)) W'
        rw [g4, g9, g14, g16]
        exact h
      clear g4 g9 g14 g16 e1 e2 e3
      obtain rfl : l = [(0, 3), (1, 4), (2, 5), (3, 6), (4, 7), (5, 8), (6, 9), (7, 10), (8, 11)] := hl.symm.trans (by kernel_rfl)
      have p8 : vs 8 = _ := hp 8 (by decide) (by decide)
      clear hp hl
      refine opgoal (_) (some 12) rfl rfl fun K hK => ?_
      refine Runs.mk ?_
      simp only [putAll]
      go_simp
      refine (num_read b o1.1 o1.2 W (hS rfl).rd hz1.out).mono ?_
      rintro e w' ⟨he, hr, hk⟩
      rw [hn2.out] at he
      subst he
      rw [hs2.out, hq2.out] at hr
      go_simp
      exact hK _ _ rfl (fun _ => (hS rfl).step hr hk) ⟨fun h => absurd h (by decide), fun _ => hk, fun h => absurd h (by decide), fun h => absurd h (by decide), fun h4 h9 h14 h16 => absurd rfl h9⟩ _ rfl rfl
    · -- 10: Op.move (Operand.tmp 0)
      intro l hl vs W dn e1 e2 e3 hS hR hp
      have f4 : dn 4 = dn 4 := rfl
      have f9 : dn 9 = dn 9 := rfl
      have f14 : dn 14 = false := e3 14 (by kernel_rfl)
      have f16 : dn 16 = false := e3 16 (by kernel_rfl)
      replace hS : (fun W => (dn 16) = false → RdT bi b g W (pick3 (dn 4) (dn 9) (dn 14) o0 o1 o2 o3)) W := hS
      rw [f14, f16] at hS
      have g4 : (dn 4 || ((10 : Nat) == 4)) = dn 4 := Bool.or_false _
      have g9 : (dn 9 || ((10 : Nat) == 9)) = dn 9 := Bool.or_false _
      have g14 : (dn 14 || ((10 : Nat) == 14)) = false := by rw [f14]; rfl
      have g16 : (dn 16 || ((10 : Nat) == 16)) = false := by rw [f16]; rfl
      refine OpGoal.imp (S1 := fun W => false = false → RdT bi b g W (pick3 (dn 4) (dn 9) false o0 o1 o2 o3)) (fun W' h => ?_) ?_
      · show (fun W => (dn 16 || ((10 : Nat) == 16)) = false → RdT bi b g W (pick3 (dn 4 || ((10 : Nat) == 4)) (dn 9 || ((10 : Nat) == 9)) (dn 14 || ((10 : Nat) == 14)) o0 o1 o2 o3)) W'
        rw [g4, g9, g14, g16]
        exact h
      clear g4 g9 g14 g16 e1 e2 e3
      obtain rfl : l = [] := hl.symm.trans (by kernel_rfl)
      clear hp hl
      refine opgoal (_) (some 13) rfl rfl fun K hK => ?_
      refine Runs.mk ?_
      simp only [putAll]
      go_simp
      refine hK _ _ ?_ hS ⟨fun h => absurd h (by decide), fun h => absurd h (by decide), fun h => absurd h (by decide), fun h => absurd h (by decide), fun h4 h9 h14 h16 => ((fun w => Below.refl _ w) W)⟩ _ rfl rfl
      first | rfl | go_simp | simp
    · -- 11: Op.nilCheck (Operand.tmp 13)
      intro l hl vs W dn e1 e2 e3 hS hR hp
      have f4 : dn 4 = dn 4 := rfl
      have f9 : dn 9 = dn 9 := rfl
      have f14 : dn 14 = false := e3 14 (by kernel_rfl)
      have f16 : dn 16 = false := e3 16 (by kernel_rfl)
      replace hS : (fun W => (dn 16) = false → RdT bi b g W (pick3 (dn 4) (dn 9) (dn 14) o0 o1 o2 o3)) W := hS
      rw [f14, f16] at hS
      have g4 : (dn 4 || ((11 : Nat) == 4)) = dn 4 := Bool.or_false _
      have g9 : (dn 9 || ((11 : Nat) == 9)) = dn 9 := Bool.or_false _
      have g14 : (dn 14 || ((11 : Nat) == 14)) = false := by rw [f14]; rfl
      have g16 : (dn 16 || ((11 : Nat) == 16)) = false := by rw [f16]; rfl
      refine OpGoal.imp (S1 := fun W => false = false → RdT bi b g W (pick3 (dn 4) (dn 9) false o0 o1 o2 o3)) (fun W' h => ?_) ?_
      · show (fun W => (dn 16 || ((11 : Nat) == 16)) = false → RdT bi b g W (pick3 (dn 4 || ((11 : Nat) == 4)) (dn 9 || ((11 : Nat) == 9)) (dn 14 || ((11 : Nat) == 14)) o0 o1 o2 o3)) W'
        rw [g4, g9, g14, g16]
        exact h
      clear g4 g9 g14 g16 e1 e2 e3
      obtain rfl : l = [(10, 13)] := hl.symm.trans (by kernel_rfl)
      have p10 : vs 10 = _ := hp 10 (by decide) (by decide)
      clear hp hl
      refine opgoal (_) (some 14) rfl rfl fun K hK => ?_
      refine Runs.mk ?_
      simp only [putAll]
      go_simp
      refine hK _ _ ?_ hS ⟨fun h => absurd h (by decide), fun h => absurd h (by decide), fun h => absurd h (by decide), fun h => absurd h (by decide), fun h4 h9 h14 h16 => ((fun w => Below.refl _ w) W)⟩ _ rfl rfl
      first | rfl | go_simp | simp
    · -- 12: Op.fieldAddr 78 (Operand.tmp 14) 0
      intro l hl vs W dn e1 e2 e3 hS hR hp
      have f4 : dn 4 = dn 4 := rfl
      have f9 : dn 9 = dn 9 := rfl
      have f14 : dn 14 = false := e3 14 (by kernel_rfl)
      have f16 : dn 16 = false := e3 16 (by kernel_rfl)
      replace hS : (fun W => (dn 16) = false → RdT bi b g W (pick3 (dn 4) (dn 9) (dn 14) o0 o1 o2 o3)) W := hS
      rw [f14, f16] at hS
      have g4 : (dn 4 || ((12 : Nat) == 4)) = dn 4 := Bool.or_false _
      have g9 : (dn 9 || ((12 : Nat) == 9)) = dn 9 := Bool.or_false _
      have g14 : (dn 14 || ((12 : Nat) == 14)) = false := by rw [f14]; rfl
      have g16 : (dn 16 || ((12 : Nat) == 16)) = false := by rw [f16]; rfl
      refine OpGoal.imp (S1 := fun W => false = false → RdT bi b g W (pick3 (dn 4) (dn 9) false o0 o1 o2 o3)) (fun W' h => ?_) ?_
      · show (fun W => (dn 16 || ((12 : Nat) == 16)) = false → RdT bi b g W (pick3 (dn 4 || ((12 : Nat) == 4)) (dn 9 || ((12 : Nat) == 9)) (dn 14 || ((12 : Nat) == 14)) o0 o1 o2 o3)) W'
        rw [g4, g9, g14, g16]
        exact h
      clear g4 g9 g14 g16 e1 e2 e3
      obtain rfl : l = [(10, 13), (11, 14)] := hl.symm.trans (by kernel_rfl)
      have p11 : vs 11 = _ := hp 11 (by decide) (by decide)
      clear hp hl
      refine opgoal (_) (some 15) rfl rfl fun K hK => ?_
      refine Runs.mk ?_
      simp only [putAll]
      go_simp
      refine hK _ _ ?_ hS ⟨fun h => absurd h (by decide), fun h => absurd h (by decide), fun h => absurd h (by decide), fun h => absurd h (by decide), fun h4 h9 h14 h16 => ((fun w => Below.refl _ w) W)⟩ _ rfl rfl
      first | rfl | go_simp | simp
    · -- 13: Op.load 37 (Operand.tmp 15)
      intro l hl vs W dn e1 e2 e3 hS hR hp
      have f4 : dn 4 = dn 4 := rfl
      have f9 : dn 9 = dn 9 := rfl
      have f14 : dn 14 = false := e3 14 (by kernel_rfl)
      have f16 : dn 16 = false := e3 16 (by kernel_rfl)
      replace hS : (fun W => (dn 16) = false → RdT bi b g W (pick3 (dn 4) (dn 9) (dn 14) o0 o1 o2 o3)) W := hS
      rw [f14, f16] at hS
      have g4 : (dn 4 || ((13 : Nat) == 4)) = dn 4 := Bool.or_false _
      have g9 : (dn 9 || ((13 : Nat) == 9)) = dn 9 := Bool.or_false _
      have g14 : (dn 14 || ((13 : Nat) == 14)) = false := by rw [f14]; rfl
      have g16 : (dn 16 || ((13 : Nat) == 16)) = false := by rw [f16]; rfl
      refine OpGoal.imp (S1 := fun W => false = false → RdT bi b g W (pick3 (dn 4) (dn 9) false o0 o1 o2 o3)) (fun W' h => ?_) ?_
      · show (fun W => (dn 16 || ((13 : Nat) == 16)) = false → RdT bi b g W (pick3 (dn 4 || ((13 : Nat) == 4)) (dn 9 || ((13 : Nat) == 9)) (dn 14 || ((13 : Nat) == 14)) o0 o1 o2 o3)) W'
        rw [g4, g9, g14, g16]
        exact h
      clear g4 g9 g14 g16 e1 e2 e3
      obtain rfl : l = [(10, 13), (11, 14), (12, 15)] := hl.symm.trans (by kernel_rfl)
      have p12 : vs 12 = _ := hp 12 (by decide) (by decide)
      clear hp hl
      refine opgoal (_) (some 16) rfl rfl fun K hK => ?_
      have hi0 := hI.out W hR
      refine Runs.mk ?_
      simp only [putAll]
      go_simp
      refine hK _ _ ?_ hS ⟨fun h => absurd h (by decide), fun h => absurd h (by decide), fun h => absurd h (by decide), fun h => absurd h (by decide), fun h4 h9 h14 h16 => ((fun w => Below.refl _ w) W)⟩ _ rfl rfl
      first | rfl | go_simp | simp
    · -- 14: Op.call { callee := Callee.value (Operand.func 85), args := #[Operand.tmp 16], argTypes := #[37] }
      intro l hl vs W dn e1 e2 e3 hS hR hp
      have f4 : dn 4 = true := e2 4 (by kernel_rfl)
      have f9 : dn 9 = true := e2 9 (by kernel_rfl)
      have f14 : dn 14 = false := e1
      have f16 : dn 16 = false := e3 16 (by kernel_rfl)
      replace hS : (fun W => (dn 16) = false → RdT bi b g W (pick3 (dn 4) (dn 9) (dn 14) o0 o1 o2 o3)) W := hS
      rw [f4, f9, f14, f16] at hS
      have g4 : (dn 4 || ((14 : Nat) == 4)) = true := by rw [f4]; rfl
      have g9 : (dn 9 || ((14 : Nat) == 9)) = true := by rw [f9]; rfl
      have g14 : (dn 14 || ((14 : Nat) == 14)) = true := by rw [f14]; rfl
      have g16 : (dn 16 || ((14 : Nat) == 16)) = false := by rw [f16]; rfl
      refine OpGoal.imp (S1 := fun W => false = false → RdT bi b g W (pick3 true true true o0 o1 o2 o3)) (fun W' h => ?_) ?_
      · show (fun W => (dn 16 || ((14 : Nat) == 16)) = false → RdT bi b g W (pick3 (dn 4 || ((14 : Nat) == 4)) (dn 9 || ((14 : Nat) == 9)) (dn 14 || ((14 : Nat) == 14)) o0 o1 o2 o3)) W'
        rw [g4, g9, g14, g16]
        exact h
      clear g4 g9 g14 g16 e1 e2 e3
      obtain rfl : l = [(0, 3), (1, 4), (2, 5), (3, 6), (4, 7), (5, 8), (6, 9), (7, 10), (8, 11), (9, 12), (10, 13), (11, 14), (12, 15), (13, 16)] := hl.symm.trans (by kernel_rfl)
      have p13 : vs 13 = _ := hp 13 (by decide) (by decide)
      clear hp hl
      refine opgoal (_) (some 17) rfl rfl fun K hK => ?_
      refine Runs.mk ?_
      simp only [putAll]
      go_simp
      refine (num_read b o2.1 o2.2 W (hS rfl).rd hz2.out).mono ?_
      rintro e w' ⟨he, hr, hk⟩
      rw [hn3.out] at he
      subst he
      rw [hs3.out, hq3.out] at hr
      go_simp
      exact hK _ _ rfl (fun _ => (hS rfl).step hr hk) ⟨fun h => absurd h (by decide), fun h => absurd h (by decide), fun _ => hk, fun h => absurd h (by decide), fun h4 h9 h14 h16 => absurd rfl h14⟩ _ rfl rfl
    · -- 15: Op.build 51 #[(0, Operand.tmp 7), (1, Operand.tmp 12), (2, Operand.tmp 17)]
      intro l hl vs W dn e1 e2 e3 hS hR hp
      have f4 : dn 4 = true := e2 4 (by kernel_rfl)
      have f9 : dn 9 = true := e2 9 (by kernel_rfl)
      have f14 : dn 14 = true := e2 14 (by kernel_rfl)
      have f16 : dn 16 = false := e3 16 (by kernel_rfl)
      replace hS : (fun W => (dn 16) = false → RdT bi b g W (pick3 (dn 4) (dn 9) (dn 14) o0 o1 o2 o3)) W := hS
      rw [f4, f9, f14, f16] at hS
      have g4 : (dn 4 || ((15 : Nat) == 4)) = true := by rw [f4]; rfl
      have g9 : (dn 9 || ((15 : Nat) == 9)) = true := by rw [f9]; rfl
      have g14 : (dn 14 || ((15 : Nat) == 14)) = true := by rw [f14]; rfl
      have g16 : (dn 16 || ((15 : Nat) == 16)) = false := by rw [f16]; rfl
      refine OpGoal.imp (S1 := fun W => false = false → RdT bi b g W (pick3 true true true o0 o1 o2 o3)) (fun W' h => ?_) ?_
      · show (fun W => (dn 16 || ((15 : Nat) == 16)) = false → RdT bi b g W (pick3 (dn 4 || ((15 : Nat) == 4)) (dn 9 || ((15 : Nat) == 9)) (dn 14 || ((15 : Nat) == 14)) o0 o1 o2 o3)) W'
        rw [g4, g9, g14, g16]
        exact h
      clear g4 g9 g14 g16 e1 e2 e3
      obtain rfl : l = [(0, 3), (1, 4), (2, 5), (3, 6), (4, 7), (5, 8), (6, 9), (7, 10), (8, 11), (9, 12), (10, 13), (11, 14), (12, 15), (13, 16), (14, 17)] := hl.symm.trans (by kernel_rfl)
      have p4 : vs 4 = _ := hp 4 (by decide) (by decide)
      have p9 : vs 9 = _ := hp 9 (by decide) (by decide)
      have p14 : vs 14 = _ := hp 14 (by decide) (by decide)
      clear hp hl
      refine opgoal (_) (some 18) rfl rfl fun K hK => ?_
      refine Runs.mk ?_
      simp only [putAll]
      go_simp
      refine hK _ _ ?_ hS ⟨fun h => absurd h (by decide), fun h => absurd h (by decide), fun h => absurd h (by decide), fun h => absurd h (by decide), fun h4 h9 h14 h16 => ((fun w => Below.refl _ w) W)⟩ _ rfl rfl
      first | rfl | go_simp | simp
    · -- 16: Op.store 51 (Operand.tmp 2) (Operand.tmp 18)
      intro l hl vs W dn e1 e2 e3 hS hR hp
      have f4 : dn 4 = true := e2 4 (by kernel_rfl)
      have f9 : dn 9 = true := e2 9 (by kernel_rfl)
      have f14 : dn 14 = true := e2 14 (by kernel_rfl)
      have f16 : dn 16 = false := e1
      replace hS : (fun W => (dn 16) = false → RdT bi b g W (pick3 (dn 4) (dn 9) (dn 14) o0 o1 o2 o3)) W := hS
      rw [f4, f9, f14, f16] at hS
      have g4 : (dn 4 || ((16 : Nat) == 4)) = true := by rw [f4]; rfl
      have g9 : (dn 9 || ((16 : Nat) == 9)) = true := by rw [f9]; rfl
      have g14 : (dn 14 || ((16 : Nat) == 14)) = true := by rw [f14]; rfl
      have g16 : (dn 16 || ((16 : Nat) == 16)) = true := by rw [f16]; rfl
      refine OpGoal.imp (S1 := fun W => true = false → RdT bi b g W (pick3 true true true o0 o1 o2 o3)) (fun W' h => ?_) ?_
      · show (fun W => (dn 16 || ((16 : Nat) == 16)) = false → RdT bi b g W (pick3 (dn 4 || ((16 : Nat) == 4)) (dn 9 || ((16 : Nat) == 9)) (dn 14 || ((16 : Nat) == 14)) o0 o1 o2 o3)) W'
        rw [g4, g9, g14, g16]
        exact h
      clear g4 g9 g14 g16 e1 e2 e3
      obtain rfl : l = [(0, 3), (1, 4), (2, 5), (3, 6), (4, 7), (5, 8), (6, 9), (7, 10), (8, 11), (9, 12), (10, 13), (11, 14), (12, 15), (13, 16), (14, 17), (15, 18)] := hl.symm.trans (by kernel_rfl)
      have p15 : vs 15 = _ := hp 15 (by decide) (by decide)
      clear hp hl
      refine opgoal ({ dst := none, op := Op.store 51 (Operand.tmp 2) (Operand.tmp 18), type := 0, pos := "item.go:98", after := #[{ on := 15, ground := Ground.data }, { on := 14, ground := Ground.chain }, { on := 0, ground := Ground.phase }, { on := 1, ground := Ground.phase }, { on := 2, ground := Ground.phase }, { on := 3, ground := Ground.phase }, { on := 4, ground := Ground.phase }, { on := 5, ground := Ground.phase }, { on := 6, ground := Ground.phase }, { on := 7, ground := Ground.phase }, { on := 8, ground := Ground.phase }, { on := 9, ground := Ground.phase }, { on := 10, ground := Ground.phase }, { on := 11, ground := Ground.phase }, { on := 12, ground := Ground.phase }, { on := 13, ground := Ground.phase }, { on := 14, ground := Ground.phase }, { on := 15, ground := Ground.phase }], guard := none }) (none) rfl rfl fun K hK => ?_
      refine runs_store_blk (wanted_none rfl) 51 (.tmp 2) (.tmp 18) rfl g 0 (by simp [putAll, Act.put, Act.eval]) 51 _ (.agg #[.int .i64 n1, .int .i64 n2, .int .i64 n3]) (by simp [putAll, Act.put, Act.eval, p15]) (hS rfl).out tid_size (by simp [Value.cells]) (by simp [Value.cells, Value.oneCell']) _ rfl ?_
      intro w' hg hu
      exact hK undef _ ⟨hg, keep_block (keep_upd hu) (hS rfl).rd (by simpa using (hS rfl).ne2)⟩ (fun h => by cases h) ⟨fun h => absurd h (by decide), fun h => absurd h (by decide), fun h => absurd h (by decide), fun _ => keep_upd hu, fun h4 h9 h14 h16 => absurd rfl h16⟩ _ put_dfs rfl
  · intro l hl vs W dn hd hS hR hp
    replace hS : (fun W => (dn 16) = false → RdT bi b g W (pick3 (dn 4) (dn 9) (dn 14) o0 o1 o2 o3)) W := hS
    rw [hd 4 (by decide), hd 9 (by decide), hd 14 (by decide), hd 16 (by decide)] at hS
    obtain rfl : l = [(0, 3), (1, 4), (2, 5), (3, 6), (4, 7), (5, 8), (6, 9), (7, 10), (8, 11), (9, 12), (10, 13), (11, 14), (12, 15), (13, 16), (14, 17), (15, 18)] := hl.symm.trans (by kernel_rfl)
    have p0 : vs 0 = _ := hp 0 (by decide) (by decide)
    have p1 : vs 1 = _ := hp 1 (by decide) (by decide)
    have p2 : vs 2 = _ := hp 2 (by decide) (by decide)
    have p3 : vs 3 = _ := hp 3 (by decide) (by decide)
    have p4 : vs 4 = _ := hp 4 (by decide) (by decide)
    have p5 : vs 5 = _ := hp 5 (by decide) (by decide)
    have p6 : vs 6 = _ := hp 6 (by decide) (by decide)
    have p7 : vs 7 = _ := hp 7 (by decide) (by decide)
    have p8 : vs 8 = _ := hp 8 (by decide) (by decide)
    have p9 : vs 9 = _ := hp 9 (by decide) (by decide)
    have p10 : vs 10 = _ := hp 10 (by decide) (by decide)
    have p11 : vs 11 = _ := hp 11 (by decide) (by decide)
    have p12 : vs 12 = _ := hp 12 (by decide) (by decide)
    have p13 : vs 13 = _ := hp 13 (by decide) (by decide)
    have p14 : vs 14 = _ := hp 14 (by decide) (by decide)
    have p15 : vs 15 = _ := hp 15 (by decide) (by decide)
    have p16 : (fun v W => W.heap[g]? = some (.cells #[.int .i64 n1, .int .i64 n2, .int .i64 n3] 51 (0, 0)) ∧ Rdr W b o3.1 o3.2) (vs 16) W := hp 16 (by decide) (by decide)
    dsimp only at p16
    clear hp hl
    simp only [putAll_mk, setAll, List.setIfInBounds_toArray, List.set_cons_succ, List.set_cons_zero, p0, p1, p2, p3, p4, p5, p6, p7, p8, p9, p10, p11, p12, p13, p14, p15]
    have HE := Lib.hid p16
    have HRR := Lib.hid hR
    clear p16 hR hS
    have k0 : W.cell? ⟨g, 0, none⟩ = some (.int .i64 n1) := by rw [cell_of_row _ _ _ _ _ _ HE.out.1]; rfl
    have k1 : W.cell? ⟨g, 1, none⟩ = some (.int .i64 n2) := by rw [cell_of_row _ _ _ _ _ _ HE.out.1]; rfl
    have k2 : W.cell? ⟨g, 2, none⟩ = some (.int .i64 n3) := by rw [cell_of_row _ _ _ _ _ _ HE.out.1]; rfl
    go_wp2
    refine bodyPost_ret (v := .agg #[.int .i64 n1, .int .i64 n2, .int .i64 n3]) (by simp [results, Try.results47, go_sem, k0, k1, k2]) rfl ?_
    exact ⟨rfl, HE.out.2, hK0.out _ HRR.out⟩
end Go.Proofs.Ytfpocddpnoighaa.It

/- wire: the law's get. -/
namespace Go.Proofs.Ytfpocddpnoighaa.Wr
open Go.RowKit Go.Proofs.Ytfpocddpnoighaa.L Go.Proofs.Ytfpocddpnoighaa.A Go.Proofs.Ytfpocddpnoighaa.S Go.Proofs.Ytfpocddpnoighaa.T
set_option linter.unusedVariables false
set_option linter.unusedSimpArgs false

theorem thing_size : (Try.prog.info? 32).map (·.size) = some 3 := by kernel_rfl
theorem thing_struct : Try.prog.underlying 32 = some (.struct (Try.prog.fieldsOf 32)) := by kernel_rfl
/-- the blocks of get's result and of its thing. -/
def getW (w : World) (k : Int) : World := (w.alloc (.cells #[.int .i64 0, .int .i64 0, .string ⟨#[]⟩] 32)).alloc (.cells #[.int .i64 k, .int .i64 0, .string ⟨#[]⟩] 32)
theorem getW_below (w : World) (k : Int) : Below w.heap.size w (getW w k) := below2 (below_alloc _ _) (below_alloc _ _)
theorem getW_0 (w : World) (k : Int) : (getW w k).heap[w.heap.size]? = some (.cells #[.int .i64 0, .int .i64 0, .string ⟨#[]⟩] 32 (0, 0)) := by
  unfold getW; rw [heap_alloc_old _ _ (by simp)]; exact heap_alloc_new _ _
theorem getW_1 (w : World) (k : Int) : (getW w k).heap[w.heap.size + 1]? = some (.cells #[.int .i64 k, .int .i64 0, .string ⟨#[]⟩] 32 (0, 0)) := by
  have := heap_alloc_new (w.alloc (.cells #[.int .i64 0, .int .i64 0, .string ⟨#[]⟩] 32)) (.cells #[.int .i64 k, .int .i64 0, .string ⟨#[]⟩] 32)
  simpa [getW] using this
theorem keep_res {S : List Nat} {w W w1 w2 : World} (hb : Below w.heap.size w W) (hk : Keep S W w1) (k2 : Keep [w.heap.size, w.heap.size + 1] w1 w2) : Keep S w w2 := by
  have h1 := (Keep.of_below (S := S) hb).trans hk
  refine ⟨k2.os.trans h1.os, k2.tape.trans h1.tape, k2.output.trans h1.output, Nat.le_trans h1.size k2.size, fun k hk1 hk2 => ?_⟩
  have := h1.size
  exact (k2.block k (by omega) (by simp; omega)).trans (h1.block k hk1 hk2)
set_option maxHeartbeats 4000000 in
set_option maxRecDepth 100000 in
theorem get0 (p : Option Addr) (S : List Nat) (x : Nat) (hx : x < 256) (G : World → Prop) (w : World)
    (hc : ∀ W, Below w.heap.size w W → Calls Try.prog 82 #[.pointer p] W fun e w' => e = .returned (.int .u8 x) ∧ G w' ∧ Keep S W w') (hS : ∀ k ∈ S, k < w.heap.size) (hG : ∀ u v, G u → Keep [w.heap.size, w.heap.size + 1] u v → G v) :
    Calls Try.prog 25 #[.pointer p, .int .i64 0] w fun e w' => e = .returned (.agg #[.int .i64 0, .int .i64 x, .string ⟨#[]⟩]) ∧ G w' ∧ Keep S w w' := by
  have HC := Lib.hid (hc _ (getW_below w 0))
  have HS := Lib.hid hS
  have HG := Lib.hid hG
  have h0 := getW_0 w 0
  have h1 := getW_1 w 0
  have hb := getW_below w 0
  obtain ⟨W, hW⟩ : ∃ W, Hid (getW w 0 = W) := ⟨_, Lib.hid rfl⟩
  rw [hW.out] at HC h0 h1 hb
  have HB := Lib.hid hb
  unfold getW at hW
  clear hc hS hG hb
  go_enter Try.func25, Try.ntmps25
  go_wp2_with fail
  rw [hW.out]
  refine HC.out.mono ?_
  rintro e w1 ⟨rfl, hg, hk⟩
  have b0 := keep_block hk h0 (fun hm => Nat.lt_irrefl _ (HS.out _ hm))
  have b1 := keep_block hk h1 (fun hm => by have := HS.out _ hm; omega)
  have HG1 := Lib.hid hg
  have HK1 := Lib.hid hk
  clear hg hk h0 h1 HC
  have c1 : w1.cell? ⟨w.heap.size + 1, 1, none⟩ = some (.int .i64 0) := by rw [cell_of_row _ _ _ _ _ _ b1]; rfl
  have f1 : w1.frozen? ⟨w.heap.size + 1, 1, none⟩ = false := by simp [World.frozen?, b1]
  have b2 := heap_setCell_at w1 (w.heap.size + 1) 1 _ _ _ (.int .i64 x) b1
  have b3 := (Below.heap_setCell w1 ⟨w.heap.size + 1, 1, none⟩ (.int .i64 x) w.heap.size (by simp)).trans b0
  have HK2 : Hid (Keep [w.heap.size, w.heap.size + 1] w1 (w1.setCell ⟨w.heap.size + 1, 1, none⟩ (.int .i64 x))) := Lib.hid ((Keep.refl _ _).setCell (p := ⟨w.heap.size + 1, 1, none⟩) (.inl (by simp)) _)
  go_wp2_with (first | (refine wpList_load_blk rfl 32 (.tmp 5) rfl (w.heap.size + 1) 0 3 rfl 32 _ (0, 0) _ b2 thing_struct rfl thing_size (by simp) #[.int .i64 0, .int .i64 x, .string ⟨#[]⟩] rfl ?_) | (refine wpList_store_blk rfl 32 (.tmp 4) (.tmp 35) rfl w.heap.size 0 rfl 32 _ (.agg #[.int .i64 0, .int .i64 x, .string ⟨#[]⟩]) rfl b3 thing_size (by simp [Value.cells]) (by simp [Value.cells, Value.oneCell']) _ rfl ?_; intro w5 hg5 hu5))
  have k0 : w5.cell? ⟨w.heap.size, 0, none⟩ = some (.int .i64 0) := by rw [cell_of_row w5 _ 0 _ _ _ hg5]; rfl
  have k1 : w5.cell? ⟨w.heap.size, 1, none⟩ = some (.int .i64 x) := by rw [cell_of_row w5 _ 1 _ _ _ hg5]; rfl
  have k2 : w5.cell? ⟨w.heap.size, 2, none⟩ = some (.string ⟨#[]⟩) := by rw [cell_of_row w5 _ 2 _ _ _ hg5]; rfl
  have HK3 := Lib.hid (HK2.out.trans ((keep_upd hu5).mono (by simp)))
  refine bodyPost_ret (v := .agg #[.int .i64 0, .int .i64 x, .string ⟨#[]⟩]) (by simp [results, Try.results25, go_sem, k0, k1, k2]) rfl ?_
  exact ⟨rfl, HG.out _ _ HG1.out HK3.out, keep_res HB.out HK1.out HK3.out⟩
set_option maxHeartbeats 4000000 in
set_option maxRecDepth 100000 in
theorem get1t (p : Option Addr) (S : List Nat)  (G : World → Prop) (w : World)
    (hc : ∀ W, Below w.heap.size w W → Calls Try.prog 83 #[.pointer p] W fun e w' => e = .returned (.bool true) ∧ G w' ∧ Keep S W w') (hS : ∀ k ∈ S, k < w.heap.size) (hG : ∀ u v, G u → Keep [w.heap.size, w.heap.size + 1] u v → G v) :
    Calls Try.prog 25 #[.pointer p, .int .i64 1] w fun e w' => e = .returned (.agg #[.int .i64 1, .int .i64 1, .string ⟨#[]⟩]) ∧ G w' ∧ Keep S w w' := by
  have HC := Lib.hid (hc _ (getW_below w 1))
  have HS := Lib.hid hS
  have HG := Lib.hid hG
  have h0 := getW_0 w 1
  have h1 := getW_1 w 1
  have hb := getW_below w 1
  obtain ⟨W, hW⟩ : ∃ W, Hid (getW w 1 = W) := ⟨_, Lib.hid rfl⟩
  rw [hW.out] at HC h0 h1 hb
  have HB := Lib.hid hb
  unfold getW at hW
  clear hc hS hG hb
  go_enter Try.func25, Try.ntmps25
  go_wp2_with fail
  rw [hW.out]
  refine HC.out.mono ?_
  rintro e w1 ⟨rfl, hg, hk⟩
  have b0 := keep_block hk h0 (fun hm => Nat.lt_irrefl _ (HS.out _ hm))
  have b1 := keep_block hk h1 (fun hm => by have := HS.out _ hm; omega)
  have HG1 := Lib.hid hg
  have HK1 := Lib.hid hk
  clear hg hk h0 h1 HC
  have c1 : w1.cell? ⟨w.heap.size + 1, 1, none⟩ = some (.int .i64 0) := by rw [cell_of_row _ _ _ _ _ _ b1]; rfl
  have f1 : w1.frozen? ⟨w.heap.size + 1, 1, none⟩ = false := by simp [World.frozen?, b1]
  have b2 := heap_setCell_at w1 (w.heap.size + 1) 1 _ _ _ (.int .i64 1) b1
  have b3 := (Below.heap_setCell w1 ⟨w.heap.size + 1, 1, none⟩ (.int .i64 1) w.heap.size (by simp)).trans b0
  have HK2 : Hid (Keep [w.heap.size, w.heap.size + 1] w1 (w1.setCell ⟨w.heap.size + 1, 1, none⟩ (.int .i64 1))) := Lib.hid ((Keep.refl _ _).setCell (p := ⟨w.heap.size + 1, 1, none⟩) (.inl (by simp)) _)
  go_wp2_with (first | (refine wpList_load_blk rfl 32 (.tmp 5) rfl (w.heap.size + 1) 0 3 rfl 32 _ (0, 0) _ b2 thing_struct rfl thing_size (by simp) #[.int .i64 1, .int .i64 1, .string ⟨#[]⟩] rfl ?_) | (refine wpList_store_blk rfl 32 (.tmp 4) (.tmp 35) rfl w.heap.size 0 rfl 32 _ (.agg #[.int .i64 1, .int .i64 1, .string ⟨#[]⟩]) rfl b3 thing_size (by simp [Value.cells]) (by simp [Value.cells, Value.oneCell']) _ rfl ?_; intro w5 hg5 hu5))
  have k0 : w5.cell? ⟨w.heap.size, 0, none⟩ = some (.int .i64 1) := by rw [cell_of_row w5 _ 0 _ _ _ hg5]; rfl
  have k1 : w5.cell? ⟨w.heap.size, 1, none⟩ = some (.int .i64 1) := by rw [cell_of_row w5 _ 1 _ _ _ hg5]; rfl
  have k2 : w5.cell? ⟨w.heap.size, 2, none⟩ = some (.string ⟨#[]⟩) := by rw [cell_of_row w5 _ 2 _ _ _ hg5]; rfl
  have HK3 := Lib.hid (HK2.out.trans ((keep_upd hu5).mono (by simp)))
  refine bodyPost_ret (v := .agg #[.int .i64 1, .int .i64 1, .string ⟨#[]⟩]) (by simp [results, Try.results25, go_sem, k0, k1, k2]) rfl ?_
  exact ⟨rfl, HG.out _ _ HG1.out HK3.out, keep_res HB.out HK1.out HK3.out⟩
set_option maxHeartbeats 4000000 in
set_option maxRecDepth 100000 in
theorem get1f (p : Option Addr) (S : List Nat)  (G : World → Prop) (w : World)
    (hc : ∀ W, Below w.heap.size w W → Calls Try.prog 83 #[.pointer p] W fun e w' => e = .returned (.bool false) ∧ G w' ∧ Keep S W w') (hS : ∀ k ∈ S, k < w.heap.size) (hG : ∀ u v, G u → Keep [w.heap.size, w.heap.size + 1] u v → G v) :
    Calls Try.prog 25 #[.pointer p, .int .i64 1] w fun e w' => e = .returned (.agg #[.int .i64 1, .int .i64 0, .string ⟨#[]⟩]) ∧ G w' ∧ Keep S w w' := by
  have HC := Lib.hid (hc _ (getW_below w 1))
  have HS := Lib.hid hS
  have HG := Lib.hid hG
  have h0 := getW_0 w 1
  have h1 := getW_1 w 1
  have hb := getW_below w 1
  obtain ⟨W, hW⟩ : ∃ W, Hid (getW w 1 = W) := ⟨_, Lib.hid rfl⟩
  rw [hW.out] at HC h0 h1 hb
  have HB := Lib.hid hb
  unfold getW at hW
  clear hc hS hG hb
  go_enter Try.func25, Try.ntmps25
  go_wp2_with fail
  rw [hW.out]
  refine HC.out.mono ?_
  rintro e w1 ⟨rfl, hg, hk⟩
  have b0 := keep_block hk h0 (fun hm => Nat.lt_irrefl _ (HS.out _ hm))
  have b1 := keep_block hk h1 (fun hm => by have := HS.out _ hm; omega)
  have HG1 := Lib.hid hg
  have HK1 := Lib.hid hk
  clear hg hk h0 h1 HC
  have b2 := b1
  have b3 := b0
  have HK2 : Hid (Keep [w.heap.size, w.heap.size + 1] w1 w1) := Lib.hid (Keep.refl _ _)
  go_wp2_with (first | (refine wpList_load_blk rfl 32 (.tmp 5) rfl (w.heap.size + 1) 0 3 rfl 32 _ (0, 0) _ b2 thing_struct rfl thing_size (by simp) #[.int .i64 1, .int .i64 0, .string ⟨#[]⟩] rfl ?_) | (refine wpList_store_blk rfl 32 (.tmp 4) (.tmp 35) rfl w.heap.size 0 rfl 32 _ (.agg #[.int .i64 1, .int .i64 0, .string ⟨#[]⟩]) rfl b3 thing_size (by simp [Value.cells]) (by simp [Value.cells, Value.oneCell']) _ rfl ?_; intro w5 hg5 hu5))
  have k0 : w5.cell? ⟨w.heap.size, 0, none⟩ = some (.int .i64 1) := by rw [cell_of_row w5 _ 0 _ _ _ hg5]; rfl
  have k1 : w5.cell? ⟨w.heap.size, 1, none⟩ = some (.int .i64 0) := by rw [cell_of_row w5 _ 1 _ _ _ hg5]; rfl
  have k2 : w5.cell? ⟨w.heap.size, 2, none⟩ = some (.string ⟨#[]⟩) := by rw [cell_of_row w5 _ 2 _ _ _ hg5]; rfl
  have HK3 := Lib.hid (HK2.out.trans ((keep_upd hu5).mono (by simp)))
  refine bodyPost_ret (v := .agg #[.int .i64 1, .int .i64 0, .string ⟨#[]⟩]) (by simp [results, Try.results25, go_sem, k0, k1, k2]) rfl ?_
  exact ⟨rfl, HG.out _ _ HG1.out HK3.out, keep_res HB.out HK1.out HK3.out⟩
set_option maxHeartbeats 4000000 in
set_option maxRecDepth 100000 in
theorem get2 (p : Option Addr) (S : List Nat) (x : Int) (G : World → Prop) (w : World)
    (hc : ∀ W, Below w.heap.size w W → Calls Try.prog 84 #[.pointer p] W fun e w' => e = .returned (.int .i64 x) ∧ G w' ∧ Keep S W w') (hS : ∀ k ∈ S, k < w.heap.size) (hG : ∀ u v, G u → Keep [w.heap.size, w.heap.size + 1] u v → G v) :
    Calls Try.prog 25 #[.pointer p, .int .i64 2] w fun e w' => e = .returned (.agg #[.int .i64 2, .int .i64 x, .string ⟨#[]⟩]) ∧ G w' ∧ Keep S w w' := by
  have HC := Lib.hid (hc _ (getW_below w 2))
  have HS := Lib.hid hS
  have HG := Lib.hid hG
  have h0 := getW_0 w 2
  have h1 := getW_1 w 2
  have hb := getW_below w 2
  obtain ⟨W, hW⟩ : ∃ W, Hid (getW w 2 = W) := ⟨_, Lib.hid rfl⟩
  rw [hW.out] at HC h0 h1 hb
  have HB := Lib.hid hb
  unfold getW at hW
  clear hc hS hG hb
  go_enter Try.func25, Try.ntmps25
  go_wp2_with fail
  rw [hW.out]
  refine HC.out.mono ?_
  rintro e w1 ⟨rfl, hg, hk⟩
  have b0 := keep_block hk h0 (fun hm => Nat.lt_irrefl _ (HS.out _ hm))
  have b1 := keep_block hk h1 (fun hm => by have := HS.out _ hm; omega)
  have HG1 := Lib.hid hg
  have HK1 := Lib.hid hk
  clear hg hk h0 h1 HC
  have c1 : w1.cell? ⟨w.heap.size + 1, 1, none⟩ = some (.int .i64 0) := by rw [cell_of_row _ _ _ _ _ _ b1]; rfl
  have f1 : w1.frozen? ⟨w.heap.size + 1, 1, none⟩ = false := by simp [World.frozen?, b1]
  have b2 := heap_setCell_at w1 (w.heap.size + 1) 1 _ _ _ (.int .i64 x) b1
  have b3 := (Below.heap_setCell w1 ⟨w.heap.size + 1, 1, none⟩ (.int .i64 x) w.heap.size (by simp)).trans b0
  have HK2 : Hid (Keep [w.heap.size, w.heap.size + 1] w1 (w1.setCell ⟨w.heap.size + 1, 1, none⟩ (.int .i64 x))) := Lib.hid ((Keep.refl _ _).setCell (p := ⟨w.heap.size + 1, 1, none⟩) (.inl (by simp)) _)
  go_wp2_with (first | (refine wpList_load_blk rfl 32 (.tmp 5) rfl (w.heap.size + 1) 0 3 rfl 32 _ (0, 0) _ b2 thing_struct rfl thing_size (by simp) #[.int .i64 2, .int .i64 x, .string ⟨#[]⟩] rfl ?_) | (refine wpList_store_blk rfl 32 (.tmp 4) (.tmp 35) rfl w.heap.size 0 rfl 32 _ (.agg #[.int .i64 2, .int .i64 x, .string ⟨#[]⟩]) rfl b3 thing_size (by simp [Value.cells]) (by simp [Value.cells, Value.oneCell']) _ rfl ?_; intro w5 hg5 hu5))
  have k0 : w5.cell? ⟨w.heap.size, 0, none⟩ = some (.int .i64 2) := by rw [cell_of_row w5 _ 0 _ _ _ hg5]; rfl
  have k1 : w5.cell? ⟨w.heap.size, 1, none⟩ = some (.int .i64 x) := by rw [cell_of_row w5 _ 1 _ _ _ hg5]; rfl
  have k2 : w5.cell? ⟨w.heap.size, 2, none⟩ = some (.string ⟨#[]⟩) := by rw [cell_of_row w5 _ 2 _ _ _ hg5]; rfl
  have HK3 := Lib.hid (HK2.out.trans ((keep_upd hu5).mono (by simp)))
  refine bodyPost_ret (v := .agg #[.int .i64 2, .int .i64 x, .string ⟨#[]⟩]) (by simp [results, Try.results25, go_sem, k0, k1, k2]) rfl ?_
  exact ⟨rfl, HG.out _ _ HG1.out HK3.out, keep_res HB.out HK1.out HK3.out⟩
set_option maxHeartbeats 4000000 in
set_option maxRecDepth 100000 in
theorem get3 (p : Option Addr) (S : List Nat) (x : Int) (G : World → Prop) (w : World)
    (hc : ∀ W, Below w.heap.size w W → Calls Try.prog 85 #[.pointer p] W fun e w' => e = .returned (.int .i64 x) ∧ G w' ∧ Keep S W w') (hS : ∀ k ∈ S, k < w.heap.size) (hG : ∀ u v, G u → Keep [w.heap.size, w.heap.size + 1] u v → G v) :
    Calls Try.prog 25 #[.pointer p, .int .i64 3] w fun e w' => e = .returned (.agg #[.int .i64 3, .int .i64 x, .string ⟨#[]⟩]) ∧ G w' ∧ Keep S w w' := by
  have HC := Lib.hid (hc _ (getW_below w 3))
  have HS := Lib.hid hS
  have HG := Lib.hid hG
  have h0 := getW_0 w 3
  have h1 := getW_1 w 3
  have hb := getW_below w 3
  obtain ⟨W, hW⟩ : ∃ W, Hid (getW w 3 = W) := ⟨_, Lib.hid rfl⟩
  rw [hW.out] at HC h0 h1 hb
  have HB := Lib.hid hb
  unfold getW at hW
  clear hc hS hG hb
  go_enter Try.func25, Try.ntmps25
  go_wp2_with fail
  rw [hW.out]
  refine HC.out.mono ?_
  rintro e w1 ⟨rfl, hg, hk⟩
  have b0 := keep_block hk h0 (fun hm => Nat.lt_irrefl _ (HS.out _ hm))
  have b1 := keep_block hk h1 (fun hm => by have := HS.out _ hm; omega)
  have HG1 := Lib.hid hg
  have HK1 := Lib.hid hk
  clear hg hk h0 h1 HC
  have c1 : w1.cell? ⟨w.heap.size + 1, 1, none⟩ = some (.int .i64 0) := by rw [cell_of_row _ _ _ _ _ _ b1]; rfl
  have f1 : w1.frozen? ⟨w.heap.size + 1, 1, none⟩ = false := by simp [World.frozen?, b1]
  have b2 := heap_setCell_at w1 (w.heap.size + 1) 1 _ _ _ (.int .i64 x) b1
  have b3 := (Below.heap_setCell w1 ⟨w.heap.size + 1, 1, none⟩ (.int .i64 x) w.heap.size (by simp)).trans b0
  have HK2 : Hid (Keep [w.heap.size, w.heap.size + 1] w1 (w1.setCell ⟨w.heap.size + 1, 1, none⟩ (.int .i64 x))) := Lib.hid ((Keep.refl _ _).setCell (p := ⟨w.heap.size + 1, 1, none⟩) (.inl (by simp)) _)
  go_wp2_with (first | (refine wpList_load_blk rfl 32 (.tmp 5) rfl (w.heap.size + 1) 0 3 rfl 32 _ (0, 0) _ b2 thing_struct rfl thing_size (by simp) #[.int .i64 3, .int .i64 x, .string ⟨#[]⟩] rfl ?_) | (refine wpList_store_blk rfl 32 (.tmp 4) (.tmp 35) rfl w.heap.size 0 rfl 32 _ (.agg #[.int .i64 3, .int .i64 x, .string ⟨#[]⟩]) rfl b3 thing_size (by simp [Value.cells]) (by simp [Value.cells, Value.oneCell']) _ rfl ?_; intro w5 hg5 hu5))
  have k0 : w5.cell? ⟨w.heap.size, 0, none⟩ = some (.int .i64 3) := by rw [cell_of_row w5 _ 0 _ _ _ hg5]; rfl
  have k1 : w5.cell? ⟨w.heap.size, 1, none⟩ = some (.int .i64 x) := by rw [cell_of_row w5 _ 1 _ _ _ hg5]; rfl
  have k2 : w5.cell? ⟨w.heap.size, 2, none⟩ = some (.string ⟨#[]⟩) := by rw [cell_of_row w5 _ 2 _ _ _ hg5]; rfl
  have HK3 := Lib.hid (HK2.out.trans ((keep_upd hu5).mono (by simp)))
  refine bodyPost_ret (v := .agg #[.int .i64 3, .int .i64 x, .string ⟨#[]⟩]) (by simp [results, Try.results25, go_sem, k0, k1, k2]) rfl ?_
  exact ⟨rfl, HG.out _ _ HG1.out HK3.out, keep_res HB.out HK1.out HK3.out⟩
set_option maxHeartbeats 4000000 in
set_option maxRecDepth 100000 in
theorem get4 (p : Option Addr) (S : List Nat) (x : ByteArray) (G : World → Prop) (w : World)
    (hc : ∀ W, Below w.heap.size w W → Calls Try.prog 86 #[.pointer p] W fun e w' => e = .returned (.string x) ∧ G w' ∧ Keep S W w') (hS : ∀ k ∈ S, k < w.heap.size) (hG : ∀ u v, G u → Keep [w.heap.size, w.heap.size + 1] u v → G v) :
    Calls Try.prog 25 #[.pointer p, .int .i64 4] w fun e w' => e = .returned (.agg #[.int .i64 4, .int .i64 0, .string x]) ∧ G w' ∧ Keep S w w' := by
  have HC := Lib.hid (hc _ (getW_below w 4))
  have HS := Lib.hid hS
  have HG := Lib.hid hG
  have h0 := getW_0 w 4
  have h1 := getW_1 w 4
  have hb := getW_below w 4
  obtain ⟨W, hW⟩ : ∃ W, Hid (getW w 4 = W) := ⟨_, Lib.hid rfl⟩
  rw [hW.out] at HC h0 h1 hb
  have HB := Lib.hid hb
  unfold getW at hW
  clear hc hS hG hb
  go_enter Try.func25, Try.ntmps25
  go_wp2_with fail
  rw [hW.out]
  refine HC.out.mono ?_
  rintro e w1 ⟨rfl, hg, hk⟩
  have b0 := keep_block hk h0 (fun hm => Nat.lt_irrefl _ (HS.out _ hm))
  have b1 := keep_block hk h1 (fun hm => by have := HS.out _ hm; omega)
  have HG1 := Lib.hid hg
  have HK1 := Lib.hid hk
  clear hg hk h0 h1 HC
  have c1 : w1.cell? ⟨w.heap.size + 1, 2, none⟩ = some (.string ⟨#[]⟩) := by rw [cell_of_row _ _ _ _ _ _ b1]; rfl
  have f1 : w1.frozen? ⟨w.heap.size + 1, 2, none⟩ = false := by simp [World.frozen?, b1]
  have b2 := heap_setCell_at w1 (w.heap.size + 1) 2 _ _ _ (.string x) b1
  have b3 := (Below.heap_setCell w1 ⟨w.heap.size + 1, 2, none⟩ (.string x) w.heap.size (by simp)).trans b0
  have HK2 : Hid (Keep [w.heap.size, w.heap.size + 1] w1 (w1.setCell ⟨w.heap.size + 1, 2, none⟩ (.string x))) := Lib.hid ((Keep.refl _ _).setCell (p := ⟨w.heap.size + 1, 2, none⟩) (.inl (by simp)) _)
  go_wp2_with (first | (refine wpList_load_blk rfl 32 (.tmp 5) rfl (w.heap.size + 1) 0 3 rfl 32 _ (0, 0) _ b2 thing_struct rfl thing_size (by simp) #[.int .i64 4, .int .i64 0, .string x] rfl ?_) | (refine wpList_store_blk rfl 32 (.tmp 4) (.tmp 35) rfl w.heap.size 0 rfl 32 _ (.agg #[.int .i64 4, .int .i64 0, .string x]) rfl b3 thing_size (by simp [Value.cells]) (by simp [Value.cells, Value.oneCell']) _ rfl ?_; intro w5 hg5 hu5))
  have k0 : w5.cell? ⟨w.heap.size, 0, none⟩ = some (.int .i64 4) := by rw [cell_of_row w5 _ 0 _ _ _ hg5]; rfl
  have k1 : w5.cell? ⟨w.heap.size, 1, none⟩ = some (.int .i64 0) := by rw [cell_of_row w5 _ 1 _ _ _ hg5]; rfl
  have k2 : w5.cell? ⟨w.heap.size, 2, none⟩ = some (.string x) := by rw [cell_of_row w5 _ 2 _ _ _ hg5]; rfl
  have HK3 := Lib.hid (HK2.out.trans ((keep_upd hu5).mono (by simp)))
  refine bodyPost_ret (v := .agg #[.int .i64 4, .int .i64 0, .string x]) (by simp [results, Try.results25, go_sem, k0, k1, k2]) rfl ?_
  exact ⟨rfl, HG.out _ _ HG1.out HK3.out, keep_res HB.out HK1.out HK3.out⟩
end Go.Proofs.Ytfpocddpnoighaa.Wr

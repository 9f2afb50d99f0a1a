/- arrow: the document's arrow: New, Want, Find. -/
import Derived.Test.YtmddcmfleipjjaaArD
namespace Go.Proofs.Ytmddcmfleipjjaa.Ar
open Go.RowKit Go.Proofs.Ytmddcmfleipjjaa.L Go.Proofs.Ytmddcmfleipjjaa.A Go.Proofs.Ytmddcmfleipjjaa.R Go.Proofs.Ytmddcmfleipjjaa.T Go.Proofs.Ytmddcmfleipjjaa.F Go.Proofs.Ytmddcmfleipjjaa.S Go.Proofs.Ytmddcmfleipjjaa.Sp Go.Proofs.Ytmddcmfleipjjaa.G Go.Proofs.Ytmddcmfleipjjaa.O Go.Proofs.Ytmddcmfleipjjaa.E
set_option linter.unusedVariables false
set_option linter.unusedSimpArgs false

abbrev RA : TypeId := 52
theorem cell_set_other {w : World} {g i j : Nat} {v : Value} (h : j ≠ i) : (w.setCell ⟨g, i, none⟩ v).cell? ⟨g, j, none⟩ = w.cell? ⟨g, j, none⟩ :=
  World.cell?_setCell_other w _ _ v (by intro e; injection e with e1 e2; exact h e2.symm)
theorem has_iff {a b t : Int} : hasB t [a, b] = true ↔ t ≤ 16 ∧ 1 ≤ a ∧ a ≤ t ∧ 1 ≤ b ∧ b ≤ t := by
  simp [hasB, offB]; omega
theorem tow_zero (a b t : Int) : pathL a b t = [] ↔ towI a b t = 0 := by
  constructor
  · intro h; unfold towI; rw [h]
  · intro h
    by_cases hh : hasB t [a, b] = true
    · exfalso
      obtain ⟨h1, h2, h3, h4, h5⟩ := has_iff.1 hh
      obtain ⟨a', rfl⟩ : ∃ k : Nat, a = (k : Int) := ⟨a.toNat, by omega⟩
      obtain ⟨b', rfl⟩ : ∃ k : Nat, b = (k : Int) := ⟨b.toNat, by omega⟩
      obtain ⟨t', rfl⟩ : ∃ k : Nat, t = (k : Int) := ⟨t.toNat, by omega⟩
      have ha : In t' a' := ⟨by omega, by omega⟩
      have hb : In t' b' := ⟨by omega, by omega⟩
      rw [tow_T (by omega) ha hb] at h
      have := (t_in (by omega : t' ≤ 16) ha hb).1
      omega
    · unfold pathL
      rw [if_neg hh]
/-- the document's Want. -/
theorem rwant_any (g o : Nat) (n t x : Int) (w : World) (h : Rr w g o n t x) : Calls Try.prog 18 #[.pointer (some ⟨g, o, none⟩)] w fun e w' => e = .returned (.int .i64 (was n x)) ∧ Turned g o n w w' := by
  obtain ⟨c0, c1, c2, f2⟩ := h
  have k0 : (w.setCell ⟨g, o + 2, none⟩ (.int .i64 n)).cell? ⟨g, o, none⟩ = some (.int .i64 n) := by rw [cell_set_other (by simp)]; exact c0
  have HF : Hid (Turned g o n w (w.setCell ⟨g, o + 2, none⟩ (.int .i64 n))) := Lib.hid ⟨w, Below.refl _ _, rfl⟩
  by_cases hx : x = n
  · have e1 : (x == n) = true := by simpa using hx
    have e2 : decide (x = n) = true := by simpa using hx
    have HWS : Hid (was n x = 0) := Lib.hid (by unfold was; rw [if_pos hx])
    clear hx
    go_enter Try.func18, Try.ntmps18
    go_wp2
    go_ret
    exact ⟨reti HWS.out.symm, HF.out⟩
  · have e1 : (x == n) = false := by simpa using hx
    have e2 : decide (x = n) = false := by simpa using hx
    have HWS : Hid (was n x = x) := Lib.hid (by unfold was; rw [if_neg hx])
    clear hx
    go_enter Try.func18, Try.ntmps18
    go_wp2
    go_ret
    exact ⟨reti HWS.out.symm, HF.out⟩
set_option maxHeartbeats 4000000 in
theorem rfind_any (g o : Nat) (n t x y : Int) (w : World) (h : Rr w g o n t x) (hn : -9223372036854775808 ≤ n ∧ n ≤ 9223372036854775807) (hy : -9223372036854775808 ≤ y ∧ y ≤ 9223372036854775807) :
    Calls Try.prog 19 #[.pointer (some ⟨g, o, none⟩), .int .i64 y] w fun e w' => if edgeB n y t then e = .returned (.tuple #[.int .i64 (was n x), .bool true]) ∧ Turned g o y w w' else e = .returned (.tuple #[.int .i64 0, .bool false]) ∧ Below w.heap.size w w' := by
  obtain ⟨q, hq⟩ : ∃ q, edgeB n y t = q := ⟨_, rfl⟩
  have HED : Hid (∀ W, Calls Try.prog 27 #[.int .i64 n, .int .i64 y, .int .i64 t] W fun e w' => e = .returned (.bool q) ∧ W = w') := Lib.hid fun W => edge_any n y t W hn hy q hq
  rw [hq]
  have HR := Lib.hid h
  clear h hq
  go_enter Try.func19, Try.ntmps19
  go_wp2_with fail
  refine wp_region_one (fun W' => Below w.heap.size w W') (fun u v => Below u.heap.size u v) (fun a i => match i with
      | 0 => (fun v _ => v = .pointer (some ⟨g, o, none⟩))
      | 1 => (fun v _ => v = .pointer (some ⟨g, o, none⟩))
      | 2 => (fun v _ => v = .pointer (some ⟨g, o, none⟩))
      | 3 => (fun v _ => v = .int .i64 n)
      | 4 => (fun v _ => v = .int .i64 y)
      | 5 => (fun v _ => v = .pointer (some ⟨g, o, none⟩))
      | 6 => (fun v _ => v = .pointer (some ⟨g, o, none⟩))
      | 7 => (fun v _ => v = .pointer (some ⟨g, o + 1, none⟩))
      | 8 => (fun v _ => v = .int .i64 t)
      | 9 => (fun v _ => v = .bool q)
      | 10 => (fun v _ => v = .bool (!q))
      | _ => (fun _ _ => True)) #[0, 1, 3, 7, 0, 0, 32, 96, 224, 511, 1023] #[0, 1, 2, 4, 0, 0, 32, 64, 128, 280, 512] 2047 (by kernel_rfl) 11 rfl (fun m hm => by subst hm; kernel_rfl) (by kernel_rfl) (fun w => Below.refl _ w) (fun u v w h1 h2 => below2 h1 h2) ?_ (below_drewN 1 w) ?_ ?_
  · intro i hi
    rcases (by omega : i = 0 ∨ i = 1 ∨ i = 2 ∨ i = 3 ∨ i = 4 ∨ i = 5 ∨ i = 6 ∨ i = 7 ∨ i = 8 ∨ i = 9 ∨ i = 10) with rfl | rfl | rfl | rfl | rfl | rfl | rfl | rfl | rfl | rfl | rfl
    · exact fun v w w' h hr => by exact h
    · exact fun v w w' h hr => by exact h
    · exact fun v w w' h hr => by exact h
    · exact fun v w w' h hr => by exact h
    · exact fun v w w' h hr => by exact h
    · exact fun v w w' h hr => by exact h
    · exact fun v w w' h hr => by exact h
    · exact fun v w w' h hr => by exact h
    · exact fun v w w' h hr => by exact h
    · exact fun v w w' h hr => by exact h
    · exact fun v w w' h hr => by exact h
  · intro i hi
    rcases (by omega : i = 0 ∨ i = 1 ∨ i = 2 ∨ i = 3 ∨ i = 4 ∨ i = 5 ∨ i = 6 ∨ i = 7 ∨ i = 8 ∨ i = 9 ∨ i = 10) with rfl | rfl | rfl | rfl | rfl | rfl | rfl | rfl | rfl | rfl | rfl
    · -- 0: Op.move (Operand.tmp 0)
      intro l hl vs W hS hR hp
      obtain rfl : l = [] := hl.symm.trans (by kernel_rfl)
      clear hp hl
      refine opgoal (_) (some 7) rfl rfl fun K hK => ?_
      refine Runs.mk ?_
      simp only [putAll]
      go_simp
      refine hK _ _ ?_ hS ((fun w => Below.refl _ w) W) _ rfl rfl
      first | rfl | go_simp | simp
    · -- 1: Op.nilCheck (Operand.tmp 7)
      intro l hl vs W hS hR hp
      obtain rfl : l = [(0, 7)] := hl.symm.trans (by kernel_rfl)
      have p0 : vs 0 = _ := hp 0 (by decide) (by decide)
      clear hp hl
      refine opgoal (_) (some 8) rfl rfl fun K hK => ?_
      refine Runs.mk ?_
      simp only [putAll]
      go_simp
      refine hK _ _ ?_ hS ((fun w => Below.refl _ w) W) _ rfl rfl
      first | rfl | go_simp | simp
    · -- 2: Op.fieldAddr 52 (Operand.tmp 8) 0
      intro l hl vs W hS hR hp
      obtain rfl : l = [(0, 7), (1, 8)] := hl.symm.trans (by kernel_rfl)
      have p1 : vs 1 = _ := hp 1 (by decide) (by decide)
      clear hp hl
      refine opgoal (_) (some 9) rfl rfl fun K hK => ?_
      refine Runs.mk ?_
      simp only [putAll]
      go_simp
      refine hK _ _ ?_ hS ((fun w => Below.refl _ w) W) _ rfl rfl
      first | rfl | go_simp | simp
    · -- 3: Op.load 3 (Operand.tmp 9)
      intro l hl vs W hS hR hp
      obtain rfl : l = [(0, 7), (1, 8), (2, 9)] := hl.symm.trans (by kernel_rfl)
      have p2 : vs 2 = _ := hp 2 (by decide) (by decide)
      clear hp hl
      refine opgoal (_) (some 10) rfl rfl fun K hK => ?_
      have c0 := (HR.out.below hS).c0
      refine Runs.mk ?_
      simp only [putAll]
      go_simp
      refine hK _ _ ?_ hS ((fun w => Below.refl _ w) W) _ rfl rfl
      first | rfl | go_simp | simp
    · -- 4: Op.move (Operand.tmp 1)
      intro l hl vs W hS hR hp
      obtain rfl : l = [] := hl.symm.trans (by kernel_rfl)
      clear hp hl
      refine opgoal (_) (some 11) rfl rfl fun K hK => ?_
      refine Runs.mk ?_
      simp only [putAll]
      go_simp
      refine hK _ _ ?_ hS ((fun w => Below.refl _ w) W) _ rfl rfl
      first | rfl | go_simp | simp
    · -- 5: Op.move (Operand.tmp 0)
      intro l hl vs W hS hR hp
      obtain rfl : l = [] := hl.symm.trans (by kernel_rfl)
      clear hp hl
      refine opgoal (_) (some 12) rfl rfl fun K hK => ?_
      refine Runs.mk ?_
      simp only [putAll]
      go_simp
      refine hK _ _ ?_ hS ((fun w => Below.refl _ w) W) _ rfl rfl
      first | rfl | go_simp | simp
    · -- 6: Op.nilCheck (Operand.tmp 12)
      intro l hl vs W hS hR hp
      obtain rfl : l = [(5, 12)] := hl.symm.trans (by kernel_rfl)
      have p5 : vs 5 = _ := hp 5 (by decide) (by decide)
      clear hp hl
      refine opgoal (_) (some 13) rfl rfl fun K hK => ?_
      refine Runs.mk ?_
      simp only [putAll]
      go_simp
      refine hK _ _ ?_ hS ((fun w => Below.refl _ w) W) _ rfl rfl
      first | rfl | go_simp | simp
    · -- 7: Op.fieldAddr 52 (Operand.tmp 13) 1
      intro l hl vs W hS hR hp
      obtain rfl : l = [(5, 12), (6, 13)] := hl.symm.trans (by kernel_rfl)
      have p6 : vs 6 = _ := hp 6 (by decide) (by decide)
      clear hp hl
      refine opgoal (_) (some 14) rfl rfl fun K hK => ?_
      refine Runs.mk ?_
      simp only [putAll]
      go_simp
      refine hK _ _ ?_ hS ((fun w => Below.refl _ w) W) _ rfl rfl
      first | rfl | go_simp | simp
    · -- 8: Op.load 3 (Operand.tmp 14)
      intro l hl vs W hS hR hp
      obtain rfl : l = [(5, 12), (6, 13), (7, 14)] := hl.symm.trans (by kernel_rfl)
      have p7 : vs 7 = _ := hp 7 (by decide) (by decide)
      clear hp hl
      refine opgoal (_) (some 15) rfl rfl fun K hK => ?_
      have c1 := (HR.out.below hS).c1
      refine Runs.mk ?_
      simp only [putAll]
      go_simp
      refine hK _ _ ?_ hS ((fun w => Below.refl _ w) W) _ rfl rfl
      first | rfl | go_simp | simp
    · -- 9: Op.call { callee := Callee.value (Operand.func 27), args := #[Operand.tmp 10, Operand.tmp 11, Operand.tmp 15], argTypes := #[3, 3, 3] }
      intro l hl vs W hS hR hp
      obtain rfl : l = [(0, 7), (1, 8), (2, 9), (3, 10), (4, 11), (5, 12), (6, 13), (7, 14), (8, 15)] := hl.symm.trans (by kernel_rfl)
      have p3 : vs 3 = _ := hp 3 (by decide) (by decide)
      have p4 : vs 4 = _ := hp 4 (by decide) (by decide)
      have p8 : vs 8 = _ := hp 8 (by decide) (by decide)
      clear hp hl
      refine opgoal (_) (some 16) rfl rfl fun K hK => ?_
      refine Runs.mk ?_
      simp only [putAll]
      go_simp
      refine (HED.out W).mono ?_
      rintro e w' ⟨rfl, rfl⟩
      go_simp
      exact hK _ _ rfl hS (Below.refl _ _) _ rfl rfl
    · -- 10: Op.unOp UnOp.not 4 (Operand.tmp 16)
      intro l hl vs W hS hR hp
      obtain rfl : l = [(0, 7), (1, 8), (2, 9), (3, 10), (4, 11), (5, 12), (6, 13), (7, 14), (8, 15), (9, 16)] := hl.symm.trans (by kernel_rfl)
      have p9 : vs 9 = _ := hp 9 (by decide) (by decide)
      clear hp hl
      refine opgoal (_) (some 17) rfl rfl fun K hK => ?_
      refine Runs.mk ?_
      simp only [putAll]
      go_simp
      refine hK _ _ ?_ hS ((fun w => Below.refl _ w) W) _ rfl rfl
      first | rfl | go_simp | simp
  · intro l hl vs W hS hR hp
    obtain rfl : l = [(0, 7), (1, 8), (2, 9), (3, 10), (4, 11), (5, 12), (6, 13), (7, 14), (8, 15), (9, 16), (10, 17)] := hl.symm.trans (by kernel_rfl)
    have p0 : vs 0 = _ := hp 0 (by decide) (by decide)
    have p1 : vs 1 = _ := hp 1 (by decide) (by decide)
    have p2 : vs 2 = _ := hp 2 (by decide) (by decide)
    have p3 : vs 3 = _ := hp 3 (by decide) (by decide)
    have p4 : vs 4 = _ := hp 4 (by decide) (by decide)
    have p5 : vs 5 = _ := hp 5 (by decide) (by decide)
    have p6 : vs 6 = _ := hp 6 (by decide) (by decide)
    have p7 : vs 7 = _ := hp 7 (by decide) (by decide)
    have p8 : vs 8 = _ := hp 8 (by decide) (by decide)
    have p9 : vs 9 = _ := hp 9 (by decide) (by decide)
    have p10 : vs 10 = _ := hp 10 (by decide) (by decide)
    clear hp hl
    simp only [putAll_mk, setAll, List.setIfInBounds_toArray, List.set_cons_succ, List.set_cons_zero, p0, p1, p2, p3, p4, p5, p6, p7, p8, p9, p10]
    have HS := Lib.hid hS
    clear hS hR
    obtain ⟨W1, hW1⟩ : ∃ W1, W = W1 := ⟨_, rfl⟩
    rw [hW1] at HS ⊢
    clear hW1
    obtain ⟨c0, c1, c2, f2⟩ := HR.out.below HS.out
    cases q with
    | false =>
      go_wp2
      refine bodyPost_ret (v := .tuple #[.int .i64 0, .bool false]) (by simp [results, Try.results19, go_sem]) rfl ?_
      exact ⟨rfl, HS.out⟩
    | true =>
      have k0 : (W1.setCell ⟨g, o + 2, none⟩ (.int .i64 y)).cell? ⟨g, o, none⟩ = some (.int .i64 n) := by rw [cell_set_other (by simp)]; exact c0
      have HF : Hid (Turned g o y w (W1.setCell ⟨g, o + 2, none⟩ (.int .i64 y))) := Lib.hid ⟨W1, HS.out, rfl⟩
      by_cases hx : x = n
      · have e1 : (x == n) = true := by simpa using hx
        have e2 : decide (x = n) = true := by simpa using hx
        have HWS : Hid (was n x = 0) := Lib.hid (by unfold was; rw [if_pos hx])
        clear hx
        go_wp2
        refine bodyPost_ret (v := .tuple #[.int .i64 0, .bool true]) (by simp [results, Try.results19, go_sem]) rfl ?_
        exact ⟨by rw [HWS.out], HF.out⟩
      · have e1 : (x == n) = false := by simpa using hx
        have e2 : decide (x = n) = false := by simpa using hx
        have HWS : Hid (was n x = x) := Lib.hid (by unfold was; rw [if_neg hx])
        clear hx
        go_wp2
        refine bodyPost_ret (v := .tuple #[.int .i64 x, .bool true]) (by simp [results, Try.results19, go_sem]) rfl ?_
        exact ⟨by rw [HWS.out], HF.out⟩
end Go.Proofs.Ytmddcmfleipjjaa.Ar

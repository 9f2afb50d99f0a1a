/- arrow: one arrow: Home, turn, Want, Find. -/
import Derived.Test.YtmddcmfleipjjaaArP
import Derived.Test.YtmddcmfleipjjaaSpN
import Derived.Test.YtmddcmfleipjjaaS
namespace Go.Proofs.Ytmddcmfleipjjaa.Ar
open Go.RowKit Go.Proofs.Ytmddcmfleipjjaa.L Go.Proofs.Ytmddcmfleipjjaa.A Go.Proofs.Ytmddcmfleipjjaa.R Go.Proofs.Ytmddcmfleipjjaa.T Go.Proofs.Ytmddcmfleipjjaa.F Go.Proofs.Ytmddcmfleipjjaa.S Go.Proofs.Ytmddcmfleipjjaa.Sp
set_option linter.unusedVariables false
set_option linter.unusedSimpArgs false

theorem contains_any (A : Option Addr) (n c : Nat) (xs : List Int) (x : Int) (w : World) (hr : Rd w A n (xs.map (Value.int .i64))) :
    Calls Try.prog 23 #[.slice A n c, .int .i64 x] w fun e w' => e = .returned (.bool (xs.contains x)) ∧ w = w' := by
  have HC := Lib.hid (Go.Proofs.Ytmddcmfleipjjaa.Sp.index_any A n c xs x w hr _ rfl)
  have HX : Hid (decide (0 ≤ idx (fun y => x == y) xs) = xs.contains x) := Lib.hid (by rw [idx_any, List.contains_eq_any_beq])
  obtain ⟨r, hres⟩ : ∃ r, Hid (idx (fun y => x == y) xs = r) := ⟨_, Lib.hid rfl⟩
  rw [hres.out] at HC HX
  rw [← HX.out]
  clear hr
  go_enter Try.func23, Try.ntmps23
  go_wp2_with fail
  refine HC.out.mono ?_
  rintro e w1 ⟨rfl, rfl⟩
  go_wp2
  go_ret
  exact ⟨rfl, rfl⟩
/-- an arrow that lies at o of block g: node n of t, pointing to x. -/
structure Rr (w : World) (g o : Nat) (n t x : Int) : Prop where
  c0 : w.cell? ⟨g, o, none⟩ = some (.int .i64 n)
  c1 : w.cell? ⟨g, o + 1, none⟩ = some (.int .i64 t)
  c2 : w.cell? ⟨g, o + 2, none⟩ = some (.int .i64 x)
  f2 : w.frozen? ⟨g, o + 2, none⟩ = false
theorem frozen_below {w w' : World} {a : Addr} {v : Value} (hb : Below w.heap.size w w') (hc : w.cell? a = some v) (hf : w.frozen? a = false) : w'.frozen? a = false := by
  have hlt := World.block_lt_of_cell? w a hc
  unfold World.frozen? at hf ⊢
  rw [hb.block a.block hlt]
  exact hf
theorem Rr.below {w w' : World} {g o : Nat} {n t x : Int} (h : Rr w g o n t x) (hb : Below w.heap.size w w') : Rr w' g o n t x :=
  ⟨cell_below hb h.c0, cell_below hb h.c1, cell_below hb h.c2, frozen_below hb h.c2 h.f2⟩
theorem home_any (g o : Nat) (n t x : Int) (w : World) (h : Rr w g o n t x) : Calls Try.prog 20 #[.pointer (some ⟨g, o, none⟩)] w fun e w' => e = .returned (.bool (x == n)) ∧ Below w.heap.size w w' := by
  obtain ⟨c0, c1, c2, f2⟩ := h
  obtain ⟨r, hr⟩ : ∃ r, (x == n) = r := ⟨_, rfl⟩
  have hr2 : decide (x = n) = r := by rw [← hr]; by_cases e : x = n <;> simp [e]
  rw [hr]
  go_enter Try.func20, Try.ntmps20
  go_wp2_with fail
  go_quiet (fail)
  go_wp2
  go_ret
  exact ⟨rfl, below_drewN _ _⟩
/-- the arrow is turned, behind memory that was only added to. -/
def Turned (g o : Nat) (y : Int) (w w' : World) : Prop := ∃ W0, Below w.heap.size w W0 ∧ W0.setCell ⟨g, o + 2, none⟩ (.int .i64 y) = w'
/-- what turn answers. -/
def was (n x : Int) : Int := if x = n then 0 else x
set_option maxHeartbeats 4000000 in
theorem turn_any (g o : Nat) (n t x y : Int) (w : World) (h : Rr w g o n t x) : Calls Try.prog 22 #[.pointer (some ⟨g, o, none⟩), .int .i64 y] w fun e w' => e = .returned (.tuple #[.int .i64 (was n x), .bool (x == n)]) ∧ Turned g o y w w' := by
  obtain ⟨hm, HM⟩ : ∃ hm, Hid ((x == n) = hm) := ⟨_, Lib.hid rfl⟩
  have HX : Hid ((if x == n then 0 else x) = was n x) := Lib.hid (by unfold was; by_cases e : x = n <;> simp [e])
  have HH : Hid (∀ W, Below w.heap.size w W → Calls Try.prog 20 #[.pointer (some ⟨g, o, none⟩)] W fun e w' => e = .returned (.bool hm) ∧ Below W.heap.size W w') := Lib.hid fun W hb => by rw [← HM.out]; exact home_any g o n t x W (h.below hb)
  have HR := Lib.hid h
  clear h
  go_enter Try.func22, Try.ntmps22
  go_wp2_with fail
  refine wp_region_one (fun W' => Below w.heap.size w W') (fun u v => Below u.heap.size u v) (fun a i => match i with
      | 0 => (fun v _ => v = .pointer (some ⟨g, o, none⟩))
      | 1 => (fun v _ => v = .bool hm)
      | 2 => (fun v _ => v = .pointer (some ⟨g, o, none⟩))
      | 3 => (fun v _ => v = .pointer (some ⟨g, o, none⟩))
      | 4 => (fun v _ => v = .pointer (some ⟨g, o + 2, none⟩))
      | 5 => (fun v _ => v = .int .i64 x)
      | 6 => (fun v _ => v = .bool hm)
      | 7 => (fun v _ => v = .int .i64 x)
      | _ => (fun _ _ => True)) #[0, 1, 0, 4, 12, 28, 3, 127] #[0, 1, 0, 4, 8, 16, 2, 32] 255 (by kernel_rfl) 8 rfl (fun m hm => by subst hm; kernel_rfl) (by kernel_rfl) (fun w => Below.refl _ w) (fun u v w h1 h2 => below2 h1 h2) ?_ (below_drewN 1 w) ?_ ?_
  · intro i hi
    rcases (by omega : i = 0 ∨ i = 1 ∨ i = 2 ∨ i = 3 ∨ i = 4 ∨ i = 5 ∨ i = 6 ∨ i = 7) with rfl | rfl | rfl | rfl | rfl | rfl | rfl | rfl
    · exact fun v w w' h hr => by exact h
    · exact fun v w w' h hr => by exact h
    · exact fun v w w' h hr => by exact h
    · exact fun v w w' h hr => by exact h
    · exact fun v w w' h hr => by exact h
    · exact fun v w w' h hr => by exact h
    · exact fun v w w' h hr => by exact h
    · exact fun v w w' h hr => by exact h
  · intro i hi
    rcases (by omega : i = 0 ∨ i = 1 ∨ i = 2 ∨ i = 3 ∨ i = 4 ∨ i = 5 ∨ i = 6 ∨ i = 7) with rfl | rfl | rfl | rfl | rfl | rfl | rfl | rfl
    · -- 0: Op.move (Operand.tmp 0)
      intro l hl vs W hS hR hp
      obtain rfl : l = [] := hl.symm.trans (by kernel_rfl)
      clear hp hl
      refine opgoal (_) (some 8) rfl rfl fun K hK => ?_
      refine Runs.mk ?_
      simp only [putAll]
      go_simp
      refine hK _ _ ?_ hS ((fun w => Below.refl _ w) W) _ rfl rfl
      first | rfl | go_simp | simp
    · -- 1: Op.call { callee := Callee.value (Operand.func 20), args := #[Operand.tmp 8], argTypes := #[62] }
      intro l hl vs W hS hR hp
      obtain rfl : l = [(0, 8)] := hl.symm.trans (by kernel_rfl)
      have p0 : vs 0 = _ := hp 0 (by decide) (by decide)
      clear hp hl
      refine opgoal (_) (some 9) rfl rfl fun K hK => ?_
      refine Runs.mk ?_
      simp only [putAll]
      go_simp
      refine (HH.out W hS).mono ?_
      rintro e w' ⟨rfl, hb⟩
      go_simp
      exact hK _ _ rfl (below2 hS hb) hb _ rfl rfl
    · -- 2: Op.move (Operand.tmp 0)
      intro l hl vs W hS hR hp
      obtain rfl : l = [] := hl.symm.trans (by kernel_rfl)
      clear hp hl
      refine opgoal (_) (some 10) rfl rfl fun K hK => ?_
      refine Runs.mk ?_
      simp only [putAll]
      go_simp
      refine hK _ _ ?_ hS ((fun w => Below.refl _ w) W) _ rfl rfl
      first | rfl | go_simp | simp
    · -- 3: Op.nilCheck (Operand.tmp 10)
      intro l hl vs W hS hR hp
      obtain rfl : l = [(2, 10)] := hl.symm.trans (by kernel_rfl)
      have p2 : vs 2 = _ := hp 2 (by decide) (by decide)
      clear hp hl
      refine opgoal (_) (some 11) rfl rfl fun K hK => ?_
      refine Runs.mk ?_
      simp only [putAll]
      go_simp
      refine hK _ _ ?_ hS ((fun w => Below.refl _ w) W) _ rfl rfl
      first | rfl | go_simp | simp
    · -- 4: Op.fieldAddr 29 (Operand.tmp 11) 2
      intro l hl vs W hS hR hp
      obtain rfl : l = [(2, 10), (3, 11)] := hl.symm.trans (by kernel_rfl)
      have p3 : vs 3 = _ := hp 3 (by decide) (by decide)
      clear hp hl
      refine opgoal (_) (some 12) rfl rfl fun K hK => ?_
      refine Runs.mk ?_
      simp only [putAll]
      go_simp
      refine hK _ _ ?_ hS ((fun w => Below.refl _ w) W) _ rfl rfl
      first | rfl | go_simp | simp
    · -- 5: Op.load 3 (Operand.tmp 12)
      intro l hl vs W hS hR hp
      obtain rfl : l = [(2, 10), (3, 11), (4, 12)] := hl.symm.trans (by kernel_rfl)
      have p4 : vs 4 = _ := hp 4 (by decide) (by decide)
      clear hp hl
      refine opgoal (_) (some 13) rfl rfl fun K hK => ?_
      have c2 := (HR.out.below hS).c2
      refine Runs.mk ?_
      simp only [putAll]
      go_simp
      refine hK _ _ ?_ hS ((fun w => Below.refl _ w) W) _ rfl rfl
      first | rfl | go_simp | simp
    · -- 6: Op.assign (Operand.tmp 9)
      intro l hl vs W hS hR hp
      obtain rfl : l = [(0, 8), (1, 9)] := hl.symm.trans (by kernel_rfl)
      have p1 : vs 1 = _ := hp 1 (by decide) (by decide)
      clear hp hl
      refine opgoal (_) (some 6) rfl rfl fun K hK => ?_
      refine Runs.mk ?_
      simp only [putAll]
      go_simp
      refine hK _ _ ?_ hS ((fun w => Below.refl _ w) W) _ rfl rfl
      first | rfl | go_simp | simp
    · -- 7: Op.assign (Operand.tmp 13)
      intro l hl vs W hS hR hp
      obtain rfl : l = [(0, 8), (1, 9), (2, 10), (3, 11), (4, 12), (5, 13), (6, 6)] := hl.symm.trans (by kernel_rfl)
      have p5 : vs 5 = _ := hp 5 (by decide) (by decide)
      clear hp hl
      refine opgoal (_) (some 7) rfl rfl fun K hK => ?_
      refine Runs.mk ?_
      simp only [putAll]
      go_simp
      refine hK _ _ ?_ hS ((fun w => Below.refl _ w) W) _ rfl rfl
      first | rfl | go_simp | simp
  · intro l hl vs W hS hR hp
    obtain rfl : l = [(0, 8), (1, 9), (2, 10), (3, 11), (4, 12), (5, 13), (6, 6), (7, 7)] := hl.symm.trans (by kernel_rfl)
    have p0 : vs 0 = _ := hp 0 (by decide) (by decide)
    have p1 : vs 1 = _ := hp 1 (by decide) (by decide)
    have p2 : vs 2 = _ := hp 2 (by decide) (by decide)
    have p3 : vs 3 = _ := hp 3 (by decide) (by decide)
    have p4 : vs 4 = _ := hp 4 (by decide) (by decide)
    have p5 : vs 5 = _ := hp 5 (by decide) (by decide)
    have p6 : vs 6 = _ := hp 6 (by decide) (by decide)
    have p7 : vs 7 = _ := hp 7 (by decide) (by decide)
    clear hp hl
    simp only [putAll_mk, setAll, List.setIfInBounds_toArray, List.set_cons_succ, List.set_cons_zero, p0, p1, p2, p3, p4, p5, p6, p7]
    have HS := Lib.hid hS
    clear hS hR
    obtain ⟨c0, c1, c2, f2⟩ := HR.out.below HS.out
    cases hm with
    | true =>
      go_wp2
      refine bodyPost_ret (v := .tuple #[.int .i64 0, .bool true]) (by simp [results, Try.results22, go_sem]) rfl ⟨?_, W, HS.out, rfl⟩
      rw [← HX.out, HM.out]
      simp
    | false =>
      go_wp2
      refine bodyPost_ret (v := .tuple #[.int .i64 x, .bool false]) (by simp [results, Try.results22, go_sem]) rfl ⟨?_, W, HS.out, rfl⟩
      rw [← HX.out, HM.out]
      simp
theorem want_any (g o : Nat) (n t x : Int) (w : World) (h : Rr w g o n t x) : Calls Try.prog 9 #[.pointer (some ⟨g, o, none⟩)] w fun e w' => e = .returned (.tuple #[.int .i64 (was n x), .bool (!(x == n))]) ∧ Turned g o n w w' := by
  have HT := Lib.hid (turn_any g o n t x n w h)
  obtain ⟨c0, c1, c2, f2⟩ := h
  obtain ⟨hm, HM⟩ : ∃ hm, (x == n) = hm := ⟨_, rfl⟩
  obtain ⟨r, hr⟩ : ∃ r, was n x = r := ⟨_, rfl⟩
  rw [HM, hr] at HT ⊢
  clear HM hr
  go_enter Try.func9, Try.ntmps9
  go_wp2_with fail
  refine HT.out.mono ?_
  rintro e w1 ⟨rfl, ht⟩
  have HT1 := Lib.hid ht
  clear ht c0 c1 c2 f2
  go_wp2
  refine bodyPost_ret (v := .tuple #[.int .i64 r, .bool (!hm)]) (by simp [results, Try.results9, go_sem]) rfl ?_
  exact ⟨rfl, HT1.out⟩
end Go.Proofs.Ytmddcmfleipjjaa.Ar

/- none, May; what Free and Expire ask of a hold. -/
import Derived.Test.YtljdiaokjocfpaaLsB
namespace Go.Proofs.Ytljdiaokjocfpaa.Ls
open Go.RowKit Go.Proofs.Ytljdiaokjocfpaa.L Go.Proofs.Ytljdiaokjocfpaa.A Go.Proofs.Ytljdiaokjocfpaa.T
set_option linter.unusedVariables false
set_option linter.unusedSimpArgs false

theorem bodied_none1 : Bodied Try.prog 50 := fun _ _ => by kernel_rfl
theorem bodied_may1 : Bodied Try.prog 48 := fun _ _ => by kernel_rfl
theorem bodied_exp1 : Bodied Try.prog 45 := fun _ _ => by kernel_rfl
theorem bodied_free1 : Bodied Try.prog 46 := fun _ _ => by kernel_rfl



theorem none_nil (A : Option Addr) (n c : Nat) (w : World) : Calls Try.prog 43 #[.pointer none, .slice A n c] w fun e w' => e = .returned (.bool true) ∧ Below w.heap.size w w' := by
  go_enter Try.func43, Try.ntmps43
  go_wp2
  go_ret
  exact ⟨rfl, below_alloc _ _⟩
theorem none_any (b g : Nat) (ss : List Slt) (A : Option Addr) (n c : Nat) (xs : List Int) (w : World) (h : Tab w b g ss) (hr : Rd w A n (xs.map (Value.int .i64))) (q : Bool) (hq : xs.any (outB ss.length) = q) :
    Calls Try.prog 43 #[.pointer (some ⟨b, 0, none⟩), .slice A n c] w fun e w' => e = .returned (.bool q) ∧ Below w.heap.size w w' := by
  have hmf : ∀ (fn : Fn) (first cap : Array Value) (w : World), (Instr.makeFunc fn first cap).run Try.prog w = .ok (.func fn first cap) w := fun _ _ _ _ => rfl
  have hal := below_alloc w (.cells #[.pointer (some ⟨b, 0, none⟩)] 49)
  have told : Told Try.prog 50 #[.pointer (some ⟨w.heap.size, 0, none⟩)] (outB ss.length) (w.alloc (.cells #[.pointer (some ⟨b, 0, none⟩)] 49)) xs := by
    intro x hx w1 hb1
    refine (none1 w.heap.size b g ss.length x w1 (cell_below hb1 (cell_alloc _ _ _ 0)) (cell_below hb1 (cell_below hal h.c0))).mono ?_
    rintro e w2 ⟨rfl, rfl⟩
    exact ⟨rfl, Below.refl _ _⟩
  have HC := Lib.hid (contains_func _ _ _ A n c xs _ bodied_none1 (hr.below hal) told)
  rw [hq] at HC
  clear hr h hq told hal
  go_enter Try.func43, Try.ntmps43
  go_wp2_with fail
  refine HC.out.mono ?_
  rintro e w1 ⟨rfl, hb1⟩
  go_wp2
  go_ret
  exact ⟨rfl, below2 (below_alloc _ _) hb1⟩
theorem may_nil (a b c : Int) (A : Option Addr) (n k : Nat) (w : World) : Calls Try.prog 38 #[.pointer none, .agg #[.int .i64 a, .int .i64 b, .int .i64 c], .slice A n k] w fun e w' => e = .returned (.bool false) ∧ Below w.heap.size w w' := by
  go_enter Try.func38, Try.ntmps38
  go_wp2_with fail
  refine (none_nil _ _ _ _).mono ?_
  rintro e w1 ⟨rfl, hb1⟩
  go_wp2
  go_ret
  exact ⟨rfl, below2 (below2 (below_alloc _ _) (below_alloc _ _)) hb1⟩
def getS (ss : List Slt) (x : Int) : Slt := ss.getD x.toNat ⟨0, 0, 0, 0, false⟩
def notP (ss : List Slt) (a b c : Int) (x : Int) : Bool := (getS ss x).on && !tidB (getS ss x).a (getS ss x).b (getS ss x).c a b c
def mayV (ss : List Slt) (a b c : Int) (xs : List Int) : Bool := !xs.any (outB ss.length) && !xs.any (notP ss a b c)
theorem Tab.cells {w : World} {b g : Nat} {ss : List Slt} (h : Tab w b g ss) {i : Nat} (hi : i < ss.length) (s : Slt) (hs : ss[i] = s) :
    w.cell? ⟨g, i * 5, none⟩ = some (.int .i64 s.a) ∧ w.cell? ⟨g, i * 5 + 1, none⟩ = some (.int .i64 s.b) ∧ w.cell? ⟨g, i * 5 + 2, none⟩ = some (.int .i64 s.c) ∧ w.cell? ⟨g, i * 5 + 3, none⟩ = some (.int .i64 s.u) ∧ w.cell? ⟨g, i * 5 + 4, none⟩ = some (.bool s.on) := by
  subst hs
  exact ⟨(h.cell hi (j := 0) (by omega)).trans rfl, (h.cell hi (j := 1) (by omega)).trans rfl, (h.cell hi (j := 2) (by omega)).trans rfl, (h.cell hi (j := 3) (by omega)).trans rfl, (h.cell hi (j := 4) (by omega)).trans rfl⟩
theorem out_false {n : Nat} {x : Int} (h : outB n x = false) : ∃ k : Nat, x = k ∧ k < n := by
  simp [outB] at h
  exact ⟨x.toNat, by omega, by omega⟩
theorem any_false {xs : List Int} {p : Int → Bool} (h : xs.any p = false) : ∀ x ∈ xs, p x = false := by
  intro x hx
  have := List.any_eq_false.1 h x hx
  simpa using this
theorem may_any (b g : Nat) (ss : List Slt) (ta tb tc : Int) (A : Option Addr) (n c : Nat) (xs : List Int) (w : World) (h : Tab w b g ss) (hr : Rd w A n (xs.map (Value.int .i64))) (q : Bool) (hq : mayV ss ta tb tc xs = q) :
    Calls Try.prog 38 #[.pointer (some ⟨b, 0, none⟩), .agg #[.int .i64 ta, .int .i64 tb, .int .i64 tc], .slice A n c] w fun e w' => e = .returned (.bool q) ∧ Below w.heap.size w w' := by
  have hmf : ∀ (fn : Fn) (first cap : Array Value) (w : World), (Instr.makeFunc fn first cap).run Try.prog w = .ok (.func fn first cap) w := fun _ _ _ _ => rfl
  obtain ⟨W, hW⟩ : ∃ W, Hid ((w.alloc (.cells #[.pointer (some ⟨b, 0, none⟩)] 49)).alloc (.cells #[.int .i64 ta, .int .i64 tb, .int .i64 tc] 55) = W) := ⟨_, Lib.hid rfl⟩
  have hal : Below w.heap.size w W := by rw [← hW.out]; exact below2 (below_alloc _ _) (below_alloc _ _)
  have hx0 : W.cell? ⟨w.heap.size, 0, none⟩ = some (.pointer (some ⟨b, 0, none⟩)) := by
    rw [← hW.out]; exact cell_below (below_alloc _ _) (cell_alloc _ _ _ 0)
  have hy : ∀ j, W.cell? ⟨w.heap.size + 1, j, none⟩ = (#[Value.int .i64 ta, .int .i64 tb, .int .i64 tc] : Array Value)[j]? := by
    intro j
    rw [← hW.out]
    have := cell_alloc (w.alloc (.cells #[.pointer (some ⟨b, 0, none⟩)] 49)) #[.int .i64 ta, .int .i64 tb, .int .i64 tc] 55 j
    simp
  have hy0 := (hy 0).trans rfl
  have hy1 := (hy 1).trans rfl
  have hy2 := (hy 2).trans rfl
  clear hy
  have hT := h.below hal
  have hrd := hr.below hal
  obtain ⟨q1, hq1⟩ : ∃ q1, Hid (xs.any (outB ss.length) = q1) := ⟨_, Lib.hid rfl⟩
  have HN := Lib.hid (none_any b g ss A n c xs W hT hrd q1 hq1.out)
  cases q1 with
  | true =>
    have hq' : Hid (q = false) := Lib.hid (by rw [← hq]; simp [mayV, hq1.out])
    clear hq hr h hrd hT hx0 hy0 hy1 hy2
    go_enter Try.func38, Try.ntmps38
    go_wp2_with fail
    rw [hW.out]
    refine HN.out.mono ?_
    rintro e w1 ⟨rfl, hb1⟩
    go_wp2
    go_ret
    exact ⟨retbf hq'.out, below2 hal hb1⟩
  | false =>
    have hin := any_false hq1.out
    have HCL : Hid (∀ w1, Below W.heap.size W w1 → Calls Try.prog 47 #[.slice A n c, .func (.func 48) #[] #[.pointer (some ⟨w.heap.size, 0, none⟩), .pointer (some ⟨w.heap.size + 1, 0, none⟩)]] w1 fun e w' => e = .returned (.bool (xs.any (notP ss ta tb tc))) ∧ Below w1.heap.size w1 w') := by
      refine Lib.hid fun w1 hb1 => contains_func _ _ _ A n c xs w1 bodied_may1 (hrd.below hb1) ?_
      intro x hx w2 hb2
      have hb := below2 hb1 hb2
      obtain ⟨k, rfl, hk⟩ := out_false (hin x hx)
      have hT2 := hT.below hb
      obtain ⟨e0, e1, e2, _, e4⟩ := hT2.cells hk (getS ss k) (by simp [getS, hk])
      exact may1 _ _ b g ss.length k (getS ss k) ta tb tc w2 hk h.len.2 (cell_below hb hx0) (cell_below hb hT.c0) (cell_below hb hy0) (cell_below hb hy1) (cell_below hb hy2) e0 e1 e2 e4
    have hq' : Hid ((!xs.any (notP ss ta tb tc)) = q) := Lib.hid (by rw [← hq]; simp [mayV, hq1.out])
    clear hq hr h hrd hT hx0 hy0 hy1 hy2
    go_enter Try.func38, Try.ntmps38
    go_wp2_with fail
    rw [hW.out]
    refine HN.out.mono ?_
    rintro e w1 ⟨rfl, hb1⟩
    go_wp2_with fail
    refine (HCL.out _ hb1).mono ?_
    rintro e w2 ⟨rfl, hb2⟩
    go_wp2
    go_ret
    exact ⟨retv (show Value.bool (!xs.any (notP ss ta tb tc)) = Value.bool q by rw [hq'.out]), below2 hal (below2 hb1 hb2)⟩
theorem exp1 (x : Nat) (a b c u now : Int) (w : World) (hx : w.cell? ⟨x, 0, none⟩ = some (.int .i64 now)) :
    Calls Try.prog 45 #[.agg #[.int .i64 a, .int .i64 b, .int .i64 c, .int .i64 u], .pointer (some ⟨x, 0, none⟩)] w fun e w' => e = .returned (.bool (decide (u ≤ now))) ∧ Below w.heap.size w w' := by
  have hl := World.block_lt_of_cell? w _ hx
  go_enter Try.func45, Try.ntmps45
  go_wp2
  go_ret
  exact ⟨rfl, below_alloc _ _⟩
theorem free1 (x : Nat) (a b c u ta tb tc : Int) (w : World) (hx0 : w.cell? ⟨x, 0, none⟩ = some (.int .i64 ta)) (hx1 : w.cell? ⟨x, 1, none⟩ = some (.int .i64 tb)) (hx2 : w.cell? ⟨x, 2, none⟩ = some (.int .i64 tc)) :
    Calls Try.prog 46 #[.agg #[.int .i64 a, .int .i64 b, .int .i64 c, .int .i64 u], .pointer (some ⟨x, 0, none⟩)] w fun e w' => e = .returned (.bool (tidB a b c ta tb tc)) ∧ Below w.heap.size w w' := by
  have hl := World.block_lt_of_cell? w _ hx0
  have hq := fun w => tid_eq a b c ta tb tc w
  have hm := tid_guard
  go_enter Try.func46, Try.ntmps46
  go_wp2
  go_ret
  exact ⟨rfl, below_alloc _ _⟩
end Go.Proofs.Ytljdiaokjocfpaa.Ls

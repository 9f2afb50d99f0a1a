/- item: are numbers, names, items right? -/
import Derived.Test.YtfpocddpnoighaaItD
import Derived.Test.YtfpocddpnoighaaFi
namespace Go.Proofs.Ytfpocddpnoighaa.It
open Go.RowKit Go.Proofs.Ytfpocddpnoighaa.L Go.Proofs.Ytfpocddpnoighaa.O Go.Proofs.Ytfpocddpnoighaa.A Go.Proofs.Ytfpocddpnoighaa.R Go.Proofs.Ytfpocddpnoighaa.S Go.Proofs.Ytfpocddpnoighaa.T Go.Proofs.Ytfpocddpnoighaa.E Go.Proofs.Ytfpocddpnoighaa.Wr Go.Proofs.Ytfpocddpnoighaa.F
set_option linter.unusedVariables false
set_option linter.unusedSimpArgs false

def outN (lo hi x : Int) : Bool := decide (x < lo) || decide (hi < x)
def inB (lo hi : Int) (xs : List Int) : Bool := !xs.any (outN lo hi)
set_option maxHeartbeats 1000000 in
theorem in1 (gl gh : Nat) (lo hi x : Int) (w : World) (hl : w.cell? ⟨gl, 0, none⟩ = some (.int .i64 lo)) (hh : w.cell? ⟨gh, 0, none⟩ = some (.int .i64 hi)) :
    Calls Try.prog 130 #[.int .i64 x, .pointer (some ⟨gl, 0, none⟩), .pointer (some ⟨gh, 0, none⟩)] w fun e w' => e = .returned (.bool (outN lo hi x)) ∧ w = w' := by
  obtain ⟨r, hr⟩ : ∃ r, Hid (outN lo hi x = r) := ⟨_, Lib.hid rfl⟩
  rw [hr.out]
  by_cases h1 : x < lo
  · have er : Hid (r = true) := Lib.hid (by rw [← hr.out]; simp [outN, h1])
    go_enter Try.func130, Try.ntmps130
    go_wp2
    go_ret
    exact ⟨retb er.out, rfl⟩
  · by_cases h2 : hi < x
    · have er : Hid (r = true) := Lib.hid (by rw [← hr.out]; simp [outN, h2])
      go_enter Try.func130, Try.ntmps130
      go_wp2
      go_ret
      exact ⟨retb er.out, rfl⟩
    · have er : Hid (r = false) := Lib.hid (by rw [← hr.out]; simp [outN, h1, h2])
      go_enter Try.func130, Try.ntmps130
      go_wp2
      go_ret
      exact ⟨retbf er.out, rfl⟩
theorem bodied_in1 : Bodied Try.prog 130 := fun args w => by kernel_rfl
set_option maxHeartbeats 1000000 in
theorem in_any (lo hi : Int) (A : Option Addr) (n c : Nat) (xs : List Int) (w : World) (hr : Rd w A n (xs.map (Value.int .i64))) (q : Bool) (hq : inB lo hi xs = q) :
    Calls Try.prog 91 #[.int .i64 lo, .int .i64 hi, .slice A n c] w fun e w' => e = .returned (.bool q) ∧ Below w.heap.size w w' := by
  have hmf : ∀ (fn : Fn) (first cap : Array Value) (w : World), (Instr.makeFunc fn first cap).run Try.prog w = .ok (.func fn first cap) w := fun _ _ _ _ => rfl
  obtain ⟨W, hW⟩ : ∃ W, Hid ((w.alloc (.cells #[.int .i64 lo] 3)).alloc (.cells #[.int .i64 hi] 3) = W) := ⟨_, Lib.hid rfl⟩
  have hb0 : Below w.heap.size w W := by rw [← hW.out]; exact below2 (below_alloc _ _) (below_alloc _ _)
  have cl : W.cell? ⟨w.heap.size, 0, none⟩ = some (.int .i64 lo) := by rw [← hW.out]; exact cell_below (below_alloc _ _) (cell_alloc w _ _ 0)
  have ch : W.cell? ⟨w.heap.size + 1, 0, none⟩ = some (.int .i64 hi) := by
    rw [← hW.out]
    have := cell_alloc (w.alloc (.cells #[.int .i64 lo] 3)) #[.int .i64 hi] 3 0
    rw [World.size_alloc] at this
    exact this
  have told : Go.Proofs.Ytfpocddpnoighaa.F.Told Try.prog 130 #[.pointer (some ⟨w.heap.size, 0, none⟩), .pointer (some ⟨w.heap.size + 1, 0, none⟩)] (outN lo hi) W xs := fun x hx w1 hb =>
    (in1 w.heap.size (w.heap.size + 1) lo hi x w1 (cell_below hb cl) (cell_below hb ch)).mono fun e w' ⟨he, hw⟩ => ⟨he, hw ▸ Below.refl _ _⟩
  have HC := Lib.hid (contains_func _ _ _ A n c xs W bodied_in1 (hr.below hb0) told)
  obtain ⟨p, hp⟩ : ∃ p, Hid (xs.any (outN lo hi) = p) := ⟨_, Lib.hid rfl⟩
  have hqp : Hid ((!p) = q) := Lib.hid (by rw [← hp.out]; exact hq)
  rw [hp.out] at HC
  have HB := Lib.hid hb0
  clear hr cl ch told hb0 hq
  go_enter Try.func91, Try.ntmps91
  go_wp2_with fail
  rw [hW.out]
  refine HC.out.mono ?_
  rintro e w1 ⟨rfl, hb1⟩
  go_wp2
  go_ret
  exact ⟨retv (congrArg Value.bool hqp.out), below2 HB.out hb1⟩
/-- is a name right? -/
def tidR (t : Td) : Bool := inB 1 16 [t.a] && inB 1 1099511627776 [t.b, t.c]
set_option maxHeartbeats 1000000 in
theorem righttid_any (t : Td) (w : World) (q : Bool) (hq : tidR t = q) : Calls Try.prog 34 #[.agg #[.int .i64 t.a, .int .i64 t.b, .int .i64 t.c]] w fun e w' => e = .returned (.bool q) ∧ Below w.heap.size w w' := by
  obtain ⟨a, b, c⟩ := t
  obtain ⟨p1, hp1⟩ : ∃ p, Hid (inB 1 16 [a] = p) := ⟨_, Lib.hid rfl⟩
  obtain ⟨p2, hp2⟩ : ∃ p, Hid (inB 1 1099511627776 [b, c] = p) := ⟨_, Lib.hid rfl⟩
  have hqq : Hid ((p1 && p2) = q) := Lib.hid (by rw [← hp1.out, ← hp2.out]; exact hq)
  clear hq
  obtain ⟨g, hg⟩ : ∃ g, Hid (w.heap.size = g) := ⟨_, Lib.hid rfl⟩
  obtain ⟨W0, hW0⟩ : ∃ W0, Hid ((w.alloc (.cells #[.int .i64 a, .int .i64 b, .int .i64 c] 51)).alloc (.cells #[.int .i64 a] 3) = W0) := ⟨_, Lib.hid rfl⟩
  have hb0 : Hid (Below w.heap.size w W0) := Lib.hid (by rw [← hW0.out]; exact below2 (below_alloc _ _) (below_alloc _ _))
  have hrd : Hid (Rd W0 (some ⟨g + 1, 0, none⟩) 1 ([a].map (Value.int .i64))) := Lib.hid (by
    rw [← hW0.out, ← hg.out]
    have := heap_alloc_new (w.alloc (.cells #[.int .i64 a, .int .i64 b, .int .i64 c] 51)) (.cells #[.int .i64 a] 3)
    rw [World.size_alloc] at this
    exact rd_ints 1 this (by simp) rfl (by decide))
  have htd : Hid (W0.heap[g]? = some (.cells #[.int .i64 a, .int .i64 b, .int .i64 c] 51 (0, 0))) := Lib.hid (by
    rw [← hW0.out, ← hg.out, heap_alloc_old _ _ (by simp)]; exact heap_alloc_new _ _)
  go_enter Try.func34, Try.ntmps34
  go_wp2_with fail
  rw [hW0.out, hg.out]
  refine (in_any 1 16 _ 1 1 [a] W0 hrd.out p1 hp1.out).mono ?_
  rintro e w1 ⟨rfl, hb1⟩
  obtain ⟨f0, f1, f2⟩ := td_cells (keep_block (.of_below (S := []) hb1) htd.out (by simp))
  have HB1 := Lib.hid (below2 hb0.out hb1)
  clear hb1
  cases p1
  case false =>
    go_wp2
    go_ret
    exact ⟨retv (congrArg Value.bool hqq.out), HB1.out⟩
  case true =>
    go_wp2_with fail
    refine (in_any 1 1099511627776 _ 2 2 [b, c] _ (rd_ints 2 (heap_alloc_new _ _) (by simp) rfl (by decide)) p2 hp2.out).mono ?_
    rintro e w2 ⟨rfl, hb2⟩
    go_wp2
    go_ret
    exact ⟨retv (congrArg Value.bool hqq.out), below2 (below2 HB1.out (below_alloc _ _)) hb2⟩
set_option maxHeartbeats 1000000 in
theorem righttid_ref (t : Td) (w : World) (q : Bool) (hq' : tidR t = q) : Calls Try.prog 35 #[.agg #[.int .i64 t.a, .int .i64 t.b, .int .i64 t.c]] w fun e w' => e = .returned (.bool q) ∧ Below w.heap.size w w' := by
  obtain ⟨a, b, c⟩ := t
  have hq := Lib.hid hq'
  clear hq'
  dsimp only
  by_cases a1 : 1 ≤ a
  case neg =>
    have e : Hid (q = false) := Lib.hid (by rw [← hq.out]; simp [tidR, inB, outN]; omega)
    go_enter Try.func35, Try.ntmps35
    go_wp2
    go_ret
    exact ⟨retbf e.out, below_alloc _ _⟩
  by_cases a2 : a ≤ 16
  case neg =>
    have e : Hid (q = false) := Lib.hid (by rw [← hq.out]; simp [tidR, inB, outN]; omega)
    go_enter Try.func35, Try.ntmps35
    go_wp2
    go_ret
    exact ⟨retbf e.out, below_alloc _ _⟩
  by_cases b1 : 1 ≤ b
  case neg =>
    have e : Hid (q = false) := Lib.hid (by rw [← hq.out]; simp [tidR, inB, outN]; omega)
    go_enter Try.func35, Try.ntmps35
    go_wp2
    go_ret
    exact ⟨retbf e.out, below_alloc _ _⟩
  by_cases b2 : b ≤ 1099511627776
  case neg =>
    have e : Hid (q = false) := Lib.hid (by rw [← hq.out]; simp [tidR, inB, outN]; omega)
    go_enter Try.func35, Try.ntmps35
    go_wp2
    go_ret
    exact ⟨retbf e.out, below_alloc _ _⟩
  by_cases c1 : 1 ≤ c
  case neg =>
    have e : Hid (q = false) := Lib.hid (by rw [← hq.out]; simp [tidR, inB, outN]; omega)
    go_enter Try.func35, Try.ntmps35
    go_wp2
    go_ret
    exact ⟨retbf e.out, below_alloc _ _⟩
  by_cases c2 : c ≤ 1099511627776
  case neg =>
    have e : Hid (q = false) := Lib.hid (by rw [← hq.out]; simp [tidR, inB, outN]; omega)
    go_enter Try.func35, Try.ntmps35
    go_wp2
    go_ret
    exact ⟨retbf e.out, below_alloc _ _⟩
  have e : Hid (q = true) := Lib.hid (by rw [← hq.out]; simp [tidR, inB, outN]; omega)
  go_enter Try.func35, Try.ntmps35
  go_wp2
  go_ret
  exact ⟨retb e.out, below_alloc _ _⟩
end Go.Proofs.Ytfpocddpnoighaa.It

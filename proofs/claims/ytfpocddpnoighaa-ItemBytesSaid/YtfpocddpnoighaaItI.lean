/- item: are nodes right? -/
import Derived.Test.YtfpocddpnoighaaItH
namespace Go.Proofs.Ytfpocddpnoighaa.It
open Go.RowKit Go.Proofs.Ytfpocddpnoighaa.L Go.Proofs.Ytfpocddpnoighaa.O Go.Proofs.Ytfpocddpnoighaa.A Go.Proofs.Ytfpocddpnoighaa.R Go.Proofs.Ytfpocddpnoighaa.S Go.Proofs.Ytfpocddpnoighaa.T Go.Proofs.Ytfpocddpnoighaa.E Go.Proofs.Ytfpocddpnoighaa.Wr Go.Proofs.Ytfpocddpnoighaa.F
set_option linter.unusedVariables false
set_option linter.unusedSimpArgs false

def nodeAt (xs : List Int) (i : Nat) : Bool := i == 0 || decide (xs.getD (i - 1) 0 < xs.getD i 0)
def nodesR (xs : List Int) : Bool := (List.range xs.length).all (nodeAt xs) && inB 1 16 xs
theorem nodes_bad {xs : List Int} {k : Nat} (hk : k < xs.length) (h : nodeAt xs k = false) : nodesR xs = false := by
  have : (List.range xs.length).all (nodeAt xs) = false := by
    rw [List.all_eq_false]
    exact ⟨k, List.mem_range.2 hk, by simp [h]⟩
  simp [nodesR, this]
theorem nodes_out {xs : List Int} {k : Nat} (hk : k < xs.length) (h : outN 1 16 xs[k] = true) : nodesR xs = false := by
  have : xs.any (outN 1 16) = true := List.any_eq_true.2 ⟨xs[k], List.getElem_mem hk, h⟩
  simp [nodesR, inB, this]
theorem nodes_end {xs : List Int} (h : ∀ j, j < xs.length → nodeAt xs j = true) : nodesR xs = inB 1 16 xs := by
  have : (List.range xs.length).all (nodeAt xs) = true := by
    rw [List.all_eq_true]
    intro j hj
    exact h j (List.mem_range.1 hj)
  simp [nodesR, this]
theorem nodes_in {xs : List Int} (h : ∀ j (hj : j < xs.length), outN 1 16 xs[j] = false) : inB 1 16 xs = true := by
  have : xs.any (outN 1 16) = false := by
    rw [List.any_eq_false]
    intro x hx
    obtain ⟨j, hj, rfl⟩ := List.getElem_of_mem hx
    simp [h j hj]
  simp [inB, this]
theorem getD_at {xs : List Int} {k : Nat} {x : Int} (hk : k < xs.length) (hx : xs[k] = x) : xs.getD k 0 = x := by
  rw [List.getD_eq_getElem?_getD, List.getElem?_eq_getElem hk, hx]; rfl
theorem rd_at {w : World} {ab ao n : Nat} {xs : List Int} (hc : ∀ j, j < n → w.cell? ⟨ab, ao + j, none⟩ = (xs.map (Value.int .i64))[j]?) {k : Nat} (hk : k < n) (hkl : k < xs.length) {x : Int} (hx : xs[k] = x) : w.cell? ⟨ab, ao + k, none⟩ = some (.int .i64 x) := by
  rw [hc k hk, List.getElem?_map, List.getElem?_eq_getElem hkl, hx]; rfl
set_option maxHeartbeats 4000000 in
set_option maxRecDepth 100000 in
theorem rightnodes_any (A : Option Addr) (n ca : Nat) (xs : List Int) (w : World) (h : Rd w A n (xs.map (Value.int .i64))) (q : Bool) (hq' : nodesR xs = q) : Calls Try.prog 38 #[.slice A n ca] w fun e w' => e = .returned (.bool q) ∧ Below w.heap.size w w' := by
  have hn9 := h.2.1
  have H := Lib.hid h
  have HN : Hid (xs.length = n) := Lib.hid (by simpa using h.len)
  have hq := Lib.hid hq'
  clear h hq'
  go_enter Try.func38, Try.ntmps38
  go_wp2
  go_loopw [7] (fun i wr => ∃ k : Nat, k ≤ n ∧ i = .int .i64 k ∧ w = wr ∧ Hid (∀ j, j < k → nodeAt xs j = true)) (fun i _ => n - (intOf i).toNat)
  case atStart => exact ⟨0, by omega, rfl, rfl, Lib.hid fun j h => absurd h (by omega)⟩
  case round =>
    obtain ⟨k, hk, rfl, hb, hok⟩ := hrel
    subst hb
    by_cases hlt : k < n
    · have hkl : k < xs.length := by have := HN.out; omega
      obtain ⟨x, hx⟩ : ∃ x, Hid (xs[k] = x) := ⟨_, Lib.hid rfl⟩
      obtain ⟨ab, ao, hAe, hc⟩ := H.out.2.2 (by omega)
      subst hAe
      have c0 := rd_at hc hlt hkl hx.out
      cases k with
      | zero =>
        have HST : Hid (∀ j, j < 1 → nodeAt xs j = true) := Lib.hid (by
          intro j hj
          obtain rfl : j = 0 := by omega
          rfl)
        rw [Nat.add_zero] at c0
        rw [show ((0 : Nat) : Int) = 0 from rfl]
        clear hc
        go_wp2
        go_roundw
        case rel => exact ⟨1, by omega, rfl, by trivial, HST⟩
        case measure => simp [intOf]; omega
      | succ j =>
        have hjl : j < xs.length := by omega
        obtain ⟨y, hy⟩ : ∃ y, Hid (xs[j] = y) := ⟨_, Lib.hid rfl⟩
        have d0 := rd_at hc (k := j) (by omega) hjl hy.out
        have hat : Hid (nodeAt xs (j + 1) = decide (y < x)) := Lib.hid (by
          unfold nodeAt
          rw [show j + 1 - 1 = j from rfl, getD_at hkl hx.out, getD_at hjl hy.out]
          simp)
        have HST : Hid (y < x → Hid (∀ i, i < j + 1 + 1 → nodeAt xs i = true)) := Lib.hid (fun hz => Lib.hid (by
          intro i hi
          by_cases e : i = j + 1
          · subst e; rw [hat.out]; simpa using hz
          · exact hok.out i (by omega)))
        have HF : Hid (x ≤ y → q = false) := Lib.hid (fun hz => by rw [← hq.out]; exact nodes_bad hkl (by rw [hat.out]; simp; omega))
        obtain ⟨k, hkj⟩ : ∃ k, k = j + 1 := ⟨_, rfl⟩
        have hkj0 : 0 < k := by omega
        have hkj2 : (k : Int) - 1 = (j : Int) := by omega
        rw [← hkj] at c0 HST hlt hk ⊢
        have hjn : j < n := by omega
        have hwj : IntKind.i64.wrap (j : Int) = (j : Int) := IntWalk.i64_in (j : Int) (by omega)
        by_cases hz : x ≤ y
        case pos =>
          have e : Hid (q = false) := Lib.hid (HF.out hz)
          clear hkj hc
          go_wp2
          go_ret
          exact ⟨retbf e.out, Below.refl _ _⟩
        case neg =>
          have e := HST.out (by omega)
          clear hkj hc
          go_wp2
          go_roundw
          case rel => exact ⟨k + 1, by omega, by simp, by trivial, e⟩
          case measure => simp [intOf]; omega
    · have e : Hid (inB 1 16 xs = q) := Lib.hid (by rw [← hq.out, nodes_end (fun j hj => hok.out j (by have := HN.out; omega))])
      have HC := Lib.hid (in_any 1 16 A n ca xs w H.out q e.out)
      go_wp2_with fail
      refine HC.out.mono ?_
      rintro e w1 ⟨rfl, hb1⟩
      go_wp2
      go_ret
      exact ⟨rfl, hb1⟩
set_option maxHeartbeats 8000000 in
set_option maxRecDepth 100000 in
theorem rightnodes_ref (A : Option Addr) (n ca : Nat) (xs : List Int) (w : World) (h : Rd w A n (xs.map (Value.int .i64))) (q : Bool) (hq' : nodesR xs = q) : Calls Try.prog 39 #[.slice A n ca] w fun e w' => e = .returned (.bool q) ∧ Below w.heap.size w w' := by
  have hn9 := h.2.1
  have H := Lib.hid h
  have HN : Hid (xs.length = n) := Lib.hid (by simpa using h.len)
  have hq := Lib.hid hq'
  clear h hq'
  go_enter Try.func39, Try.ntmps39
  go_wp2
  go_loopw [3] (fun i wr => ∃ k : Nat, k ≤ n ∧ i = .int .i64 k ∧ Below w.heap.size w wr ∧ Hid (∀ j, j < k → nodeAt xs j = true) ∧ Hid (∀ j (hj : j < xs.length), j < k → outN 1 16 xs[j] = false)) (fun i _ => n - (intOf i).toNat)
  case atStart => exact ⟨0, by omega, rfl, Below.refl _ _, Lib.hid fun j h => absurd h (by omega), Lib.hid fun j _ h => absurd h (by omega)⟩
  case round =>
    obtain ⟨k, hk, rfl, hb, hok, hin⟩ := hrel
    by_cases hlt : k < n
    · have hkl : k < xs.length := by have := HN.out; omega
      obtain ⟨x, hx⟩ : ∃ x, Hid (xs[k] = x) := ⟨_, Lib.hid rfl⟩
      obtain ⟨ab, ao, hAe, hc⟩ := (H.out.below hb).2.2 (by omega)
      subst hAe
      have c0 := rd_at hc hlt hkl hx.out
      have HB := Lib.hid hb
      by_cases p1 : x < 1
      case pos =>
        have e : Hid (q = false) := Lib.hid (by rw [← hq.out]; exact nodes_out hkl (by rw [hx.out]; unfold outN; simp; omega))
        have d1 : decide (x < 1) = true := by simpa using p1
        clear hc hb p1
        go_wp2_with fail
        go_quiet (fail)
        go_wp2
        go_ret
        exact ⟨retbf e.out, below2 HB.out (below_drewN _ _)⟩
      by_cases p2 : 16 < x
      case pos =>
        have e : Hid (q = false) := Lib.hid (by rw [← hq.out]; exact nodes_out hkl (by rw [hx.out]; unfold outN; simp; omega))
        have d1 : decide (x < 1) = false := by simpa using p1
        have d2 : decide (16 < x) = true := by simpa using p2
        clear hc hb p1 p2
        go_wp2_with fail
        go_quiet (fail)
        go_wp2
        go_ret
        exact ⟨retbf e.out, below2 HB.out (below_drewN _ _)⟩
      have d1 : decide (x < 1) = false := by simpa using p1
      have d2 : decide (16 < x) = false := by simpa using p2
      have hout : Hid (∀ j (hj : j < xs.length), j < k + 1 → outN 1 16 xs[j] = false) := Lib.hid (by
        intro j hj hjk
        by_cases e : j = k
        · subst e; rw [hx.out]; unfold outN; simp; omega
        · exact hin.out j hj (by omega))
      cases k with
      | zero =>
        have HST : Hid (∀ j, j < 1 → nodeAt xs j = true) := Lib.hid (by
          intro j hj
          obtain rfl : j = 0 := by omega
          rfl)
        rw [Nat.add_zero] at c0
        rw [show ((0 : Nat) : Int) = 0 from rfl]
        clear hc hb p1 p2
        go_wp2_with fail
        go_quiet (fail)
        go_wp2
        go_roundw
        case rel => exact ⟨1, by omega, rfl, below2 HB.out (below_drewN _ _), HST, hout⟩
        case measure => simp [intOf]; omega
      | succ j =>
        have hjl : j < xs.length := by omega
        obtain ⟨y, hy⟩ : ∃ y, Hid (xs[j] = y) := ⟨_, Lib.hid rfl⟩
        have d0 := rd_at hc (k := j) (by omega) hjl hy.out
        have hat : Hid (nodeAt xs (j + 1) = decide (y < x)) := Lib.hid (by
          unfold nodeAt
          rw [show j + 1 - 1 = j from rfl, getD_at hkl hx.out, getD_at hjl hy.out]
          simp)
        have HST : Hid (y < x → Hid (∀ i, i < j + 1 + 1 → nodeAt xs i = true)) := Lib.hid (fun hz => Lib.hid (by
          intro i hi
          by_cases e : i = j + 1
          · subst e; rw [hat.out]; simpa using hz
          · exact hok.out i (by omega)))
        have HF : Hid (x ≤ y → q = false) := Lib.hid (fun hz => by rw [← hq.out]; exact nodes_bad hkl (by rw [hat.out]; simp; omega))
        obtain ⟨k, hkj⟩ : ∃ k, k = j + 1 := ⟨_, rfl⟩
        have hkj0 : 0 < k := by omega
        have hkj1 : decide (0 < (k : Int)) = true := by simp; omega
        have hkj2 : (k : Int) - 1 = (j : Int) := by omega
        rw [← hkj] at c0 HST hlt hk hout ⊢
        have hjn : j < n := by omega
        have hwj : IntKind.i64.wrap (j : Int) = (j : Int) := IntWalk.i64_in (j : Int) (by omega)
        by_cases hz : x ≤ y
        case pos =>
          have e : Hid (q = false) := Lib.hid (HF.out hz)
          have d3 : decide (x ≤ y) = true := by simpa using hz
          clear hkj hc hb p1 p2
          go_wp2_with fail
          go_quiet (fail)
          go_wp2
          go_ret
          exact ⟨retbf e.out, below2 HB.out (below_drewN _ _)⟩
        case neg =>
          have e := HST.out (by omega)
          have d3 : decide (x ≤ y) = false := by simpa using hz
          clear hkj hc hb p1 p2
          go_wp2_with fail
          go_quiet (fail)
          go_wp2
          go_roundw
          case rel => exact ⟨k + 1, by omega, by simp, below2 HB.out (below_drewN _ _), e, hout⟩
          case measure => simp [intOf]; omega
    · have e : Hid (q = true) := Lib.hid (by rw [← hq.out, nodes_end (fun j hj => hok.out j (by have := HN.out; omega)), nodes_in (fun j hj => hin.out j hj (by have := HN.out; omega))])
      go_wp2
      go_ret
      exact ⟨retb e.out, hb⟩
end Go.Proofs.Ytfpocddpnoighaa.It

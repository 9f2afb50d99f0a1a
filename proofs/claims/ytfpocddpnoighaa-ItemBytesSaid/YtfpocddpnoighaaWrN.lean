/- wire: the document's Get. -/
import Derived.Test.YtfpocddpnoighaaWrM
import Derived.Test.YtfpocddpnoighaaWrJ
namespace Go.Proofs.Ytfpocddpnoighaa.Wr
open Go.RowKit Go.Proofs.Ytfpocddpnoighaa.L Go.Proofs.Ytfpocddpnoighaa.A Go.Proofs.Ytfpocddpnoighaa.S Go.Proofs.Ytfpocddpnoighaa.T
set_option linter.unusedVariables false
set_option linter.unusedSimpArgs false

def szOf : Nat → Nat
  | 0 => 1
  | 1 => 1
  | 2 => 2
  | 3 => 8
  | _ => 2
/-- the number of a text's first bytes. -/
def headV (n : Nat) (s : ByteArray) : Nat := numV (s.extract 0 n).data.toList
theorem headV_lt (n : Nat) (s : ByteArray) (hn : n ≤ 8) : headV n s < 256 ^ n := numV_lt _ n (by rw [Array.length_toList]; show (s.extract 0 n).size ≤ n; rw [ByteArray.size_extract]; omega) hn
/-- what Get finds: the thing's number and text, and how many bytes it has. -/
def refG (k : Nat) (s : ByteArray) : Option (Int × ByteArray × Nat) :=
  if s.size < szOf k then none
  else if k = 1 ∧ 1 < headV 1 s then none
  else if k < 4 then some (wrap64 (headV (szOf k) s : Nat), ⟨#[]⟩, szOf k)
  else if s.size - 2 < headV 2 s then none
  else some (0, s.extract 2 (2 + headV 2 s), 2 + headV 2 s)
def refV (k : Nat) (s : ByteArray) : Value := match refG k s with
  | none => .tuple #[.agg #[.int .i64 0, .int .i64 0, .string ⟨#[]⟩], .int .i64 0]
  | some (n, t, m) => .tuple #[.agg #[.int .i64 k, .int .i64 n, .string t], .int .i64 m]
theorem wrap_small {m : Nat} (h : m < 9223372036854775808) : wrap64 (m : Int) = m := by
  have := IntWalk.wrap64_in (n := (m : Int))
  first
  | exact this (by omega) (by omega)
  | exact this ⟨by omega, by omega⟩

set_option maxHeartbeats 4000000 in
set_option maxRecDepth 100000 in
theorem get_ref0 (s : ByteArray) (hs : s.size ≤ 140737488351232) (w : World) : Calls Try.prog 30 #[.int .i64 0, .string s] w fun e w' => e = .returned (refV 0 s) ∧ Below w.heap.size w w' := by
  obtain ⟨V, hV⟩ : ∃ V, Hid (refV 0 s = V) := ⟨_, Lib.hid rfl⟩
  rw [hV.out]
  by_cases hsz : s.size < 1
  · have ev : Hid (V = .tuple #[.agg #[.int .i64 0, .int .i64 0, .string ⟨#[]⟩], .int .i64 0]) := Lib.hid (by rw [← hV.out]; simp [refV, refG, szOf, hsz])
    go_enter Try.func30, Try.ntmps30
    go_wp2
    refine bodyPost_ret (v := .tuple #[.agg #[.int .i64 0, .int .i64 0, .string ⟨#[]⟩], .int .i64 0]) (by simp [results, Try.results30, go_sem]) rfl ?_
    exact ⟨retv ev.out.symm, below2 (below_alloc _ _) (below_alloc _ _)⟩
  · have hle : 1 ≤ s.size := by omega
    obtain ⟨t, ht⟩ : ∃ t, Hid (s.extract 0 1 = t) := ⟨_, Lib.hid rfl⟩
    obtain ⟨m, hm⟩ : ∃ m, Hid (headV 1 s = m) := ⟨_, Lib.hid rfl⟩
    have hml : m < 256 ^ 1 := by rw [← hm.out]; exact headV_lt 1 s (by omega)
    have hmt : Hid (numV t.data.toList = m) := Lib.hid (by rw [← ht.out]; exact hm.out)
    have htl : Hid (t.size ≤ 9223372036854775807) := Lib.hid (by rw [← ht.out, ByteArray.size_extract]; omega)
    have hm6 : m < 18446744073709551616 := by simpa using Nat.lt_of_lt_of_le hml (by decide)
    have hm2 : m < 256 := by simpa using hml
    clear hml
    have ev : Hid (V = .tuple #[.agg #[.int .i64 0, .int .i64 (wrap64 (m : Nat)), .string ⟨#[]⟩], .int .i64 1]) := Lib.hid (by rw [← hV.out]; simp [refV, refG, szOf, hsz, hm.out])
    have hwr := Lib.hid (wrap_small (m := m) (by omega))
    rw [hwr.out] at ev
    go_enter Try.func30, Try.ntmps30
    go_wp2_with fail
    rw [ht.out]
    refine (value_any t _ htl.out m hmt.out).mono ?_
    rintro e w1 ⟨rfl, rfl⟩
    go_wp2
    refine bodyPost_ret (v := .tuple #[.agg #[.int .i64 0, .int .i64 ((m : Nat)), .string ⟨#[]⟩], .int .i64 1]) (by simp [results, Try.results30, go_sem]) rfl ?_
    exact ⟨retv ev.out.symm, below2 (below_alloc _ _) (below_alloc _ _)⟩
set_option maxHeartbeats 4000000 in
set_option maxRecDepth 100000 in
theorem get_ref1 (s : ByteArray) (hs : s.size ≤ 140737488351232) (w : World) : Calls Try.prog 30 #[.int .i64 1, .string s] w fun e w' => e = .returned (refV 1 s) ∧ Below w.heap.size w w' := by
  obtain ⟨V, hV⟩ : ∃ V, Hid (refV 1 s = V) := ⟨_, Lib.hid rfl⟩
  rw [hV.out]
  by_cases hsz : s.size < 1
  · have ev : Hid (V = .tuple #[.agg #[.int .i64 0, .int .i64 0, .string ⟨#[]⟩], .int .i64 0]) := Lib.hid (by rw [← hV.out]; simp [refV, refG, szOf, hsz])
    go_enter Try.func30, Try.ntmps30
    go_wp2
    refine bodyPost_ret (v := .tuple #[.agg #[.int .i64 0, .int .i64 0, .string ⟨#[]⟩], .int .i64 0]) (by simp [results, Try.results30, go_sem]) rfl ?_
    exact ⟨retv ev.out.symm, below2 (below_alloc _ _) (below_alloc _ _)⟩
  · have hle : 1 ≤ s.size := by omega
    obtain ⟨t, ht⟩ : ∃ t, Hid (s.extract 0 1 = t) := ⟨_, Lib.hid rfl⟩
    obtain ⟨m, hm⟩ : ∃ m, Hid (headV 1 s = m) := ⟨_, Lib.hid rfl⟩
    have hml : m < 256 ^ 1 := by rw [← hm.out]; exact headV_lt 1 s (by omega)
    have hmt : Hid (numV t.data.toList = m) := Lib.hid (by rw [← ht.out]; exact hm.out)
    have htl : Hid (t.size ≤ 9223372036854775807) := Lib.hid (by rw [← ht.out, ByteArray.size_extract]; omega)
    have hm6 : m < 18446744073709551616 := by simpa using Nat.lt_of_lt_of_le hml (by decide)
    have hm2 : m < 256 := by simpa using hml
    clear hml
    by_cases h1 : 1 < m
    · have ev : Hid (V = .tuple #[.agg #[.int .i64 0, .int .i64 0, .string ⟨#[]⟩], .int .i64 0]) := Lib.hid (by rw [← hV.out]; simp [refV, refG, szOf, hsz, hm.out, h1])
      have h1' : (1 : Int) < (m : Int) := by omega
      go_enter Try.func30, Try.ntmps30
      go_wp2_with fail
      rw [ht.out]
      refine (value_any t _ htl.out m hmt.out).mono ?_
      rintro e w1 ⟨rfl, rfl⟩
      go_wp2
      refine bodyPost_ret (v := .tuple #[.agg #[.int .i64 0, .int .i64 0, .string ⟨#[]⟩], .int .i64 0]) (by simp [results, Try.results30, go_sem]) rfl ?_
      exact ⟨retv ev.out.symm, below2 (below_alloc _ _) (below_alloc _ _)⟩
    · have hwr := Lib.hid (wrap_small (m := m) (by omega))
      have ev : Hid (V = .tuple #[.agg #[.int .i64 1, .int .i64 (m : Nat), .string ⟨#[]⟩], .int .i64 1]) := Lib.hid (by rw [← hV.out]; simp [refV, refG, szOf, hsz, hm.out, h1, hwr.out])
      have h1' : ¬ (1 : Int) < (m : Int) := by omega
      go_enter Try.func30, Try.ntmps30
      go_wp2_with fail
      rw [ht.out]
      refine (value_any t _ htl.out m hmt.out).mono ?_
      rintro e w1 ⟨rfl, rfl⟩
      go_wp2
      refine bodyPost_ret (v := .tuple #[.agg #[.int .i64 1, .int .i64 (m : Nat), .string ⟨#[]⟩], .int .i64 1]) (by simp [results, Try.results30, go_sem]) rfl ?_
      exact ⟨retv ev.out.symm, below2 (below_alloc _ _) (below_alloc _ _)⟩
set_option maxHeartbeats 4000000 in
set_option maxRecDepth 100000 in
theorem get_ref2 (s : ByteArray) (hs : s.size ≤ 140737488351232) (w : World) : Calls Try.prog 30 #[.int .i64 2, .string s] w fun e w' => e = .returned (refV 2 s) ∧ Below w.heap.size w w' := by
  obtain ⟨V, hV⟩ : ∃ V, Hid (refV 2 s = V) := ⟨_, Lib.hid rfl⟩
  rw [hV.out]
  by_cases hsz : s.size < 2
  · have ev : Hid (V = .tuple #[.agg #[.int .i64 0, .int .i64 0, .string ⟨#[]⟩], .int .i64 0]) := Lib.hid (by rw [← hV.out]; simp [refV, refG, szOf, hsz])
    go_enter Try.func30, Try.ntmps30
    go_wp2
    refine bodyPost_ret (v := .tuple #[.agg #[.int .i64 0, .int .i64 0, .string ⟨#[]⟩], .int .i64 0]) (by simp [results, Try.results30, go_sem]) rfl ?_
    exact ⟨retv ev.out.symm, below2 (below_alloc _ _) (below_alloc _ _)⟩
  · have hle : 2 ≤ s.size := by omega
    obtain ⟨t, ht⟩ : ∃ t, Hid (s.extract 0 2 = t) := ⟨_, Lib.hid rfl⟩
    obtain ⟨m, hm⟩ : ∃ m, Hid (headV 2 s = m) := ⟨_, Lib.hid rfl⟩
    have hml : m < 256 ^ 2 := by rw [← hm.out]; exact headV_lt 2 s (by omega)
    have hmt : Hid (numV t.data.toList = m) := Lib.hid (by rw [← ht.out]; exact hm.out)
    have htl : Hid (t.size ≤ 9223372036854775807) := Lib.hid (by rw [← ht.out, ByteArray.size_extract]; omega)
    have hm6 : m < 18446744073709551616 := by simpa using Nat.lt_of_lt_of_le hml (by decide)
    have hm2 : m < 65536 := by simpa using hml
    clear hml
    have ev : Hid (V = .tuple #[.agg #[.int .i64 2, .int .i64 (wrap64 (m : Nat)), .string ⟨#[]⟩], .int .i64 2]) := Lib.hid (by rw [← hV.out]; simp [refV, refG, szOf, hsz, hm.out])
    have hwr := Lib.hid (wrap_small (m := m) (by omega))
    rw [hwr.out] at ev
    go_enter Try.func30, Try.ntmps30
    go_wp2_with fail
    rw [ht.out]
    refine (value_any t _ htl.out m hmt.out).mono ?_
    rintro e w1 ⟨rfl, rfl⟩
    go_wp2
    refine bodyPost_ret (v := .tuple #[.agg #[.int .i64 2, .int .i64 ((m : Nat)), .string ⟨#[]⟩], .int .i64 2]) (by simp [results, Try.results30, go_sem]) rfl ?_
    exact ⟨retv ev.out.symm, below2 (below_alloc _ _) (below_alloc _ _)⟩
set_option maxHeartbeats 4000000 in
set_option maxRecDepth 100000 in
theorem get_ref3 (s : ByteArray) (hs : s.size ≤ 140737488351232) (w : World) : Calls Try.prog 30 #[.int .i64 3, .string s] w fun e w' => e = .returned (refV 3 s) ∧ Below w.heap.size w w' := by
  obtain ⟨V, hV⟩ : ∃ V, Hid (refV 3 s = V) := ⟨_, Lib.hid rfl⟩
  rw [hV.out]
  by_cases hsz : s.size < 8
  · have ev : Hid (V = .tuple #[.agg #[.int .i64 0, .int .i64 0, .string ⟨#[]⟩], .int .i64 0]) := Lib.hid (by rw [← hV.out]; simp [refV, refG, szOf, hsz])
    go_enter Try.func30, Try.ntmps30
    go_wp2
    refine bodyPost_ret (v := .tuple #[.agg #[.int .i64 0, .int .i64 0, .string ⟨#[]⟩], .int .i64 0]) (by simp [results, Try.results30, go_sem]) rfl ?_
    exact ⟨retv ev.out.symm, below2 (below_alloc _ _) (below_alloc _ _)⟩
  · have hle : 8 ≤ s.size := by omega
    obtain ⟨t, ht⟩ : ∃ t, Hid (s.extract 0 8 = t) := ⟨_, Lib.hid rfl⟩
    obtain ⟨m, hm⟩ : ∃ m, Hid (headV 8 s = m) := ⟨_, Lib.hid rfl⟩
    have hml : m < 256 ^ 8 := by rw [← hm.out]; exact headV_lt 8 s (by omega)
    have hmt : Hid (numV t.data.toList = m) := Lib.hid (by rw [← ht.out]; exact hm.out)
    have htl : Hid (t.size ≤ 9223372036854775807) := Lib.hid (by rw [← ht.out, ByteArray.size_extract]; omega)
    have hm6 : m < 18446744073709551616 := by simpa using Nat.lt_of_lt_of_le hml (by decide)
    clear hml
    have ev : Hid (V = .tuple #[.agg #[.int .i64 3, .int .i64 (wrap64 (m : Nat)), .string ⟨#[]⟩], .int .i64 8]) := Lib.hid (by rw [← hV.out]; simp [refV, refG, szOf, hsz, hm.out])
    go_enter Try.func30, Try.ntmps30
    go_wp2_with fail
    rw [ht.out]
    refine (value_any t _ htl.out m hmt.out).mono ?_
    rintro e w1 ⟨rfl, rfl⟩
    go_wp2
    refine bodyPost_ret (v := .tuple #[.agg #[.int .i64 3, .int .i64 (wrap64 (m : Nat)), .string ⟨#[]⟩], .int .i64 8]) (by simp [results, Try.results30, go_sem]) rfl ?_
    exact ⟨retv ev.out.symm, below2 (below_alloc _ _) (below_alloc _ _)⟩
set_option maxHeartbeats 4000000 in
set_option maxRecDepth 100000 in
theorem get_ref4 (s : ByteArray) (hs : s.size ≤ 140737488351232) (w : World) : Calls Try.prog 30 #[.int .i64 4, .string s] w fun e w' => e = .returned (refV 4 s) ∧ Below w.heap.size w w' := by
  obtain ⟨V, hV⟩ : ∃ V, Hid (refV 4 s = V) := ⟨_, Lib.hid rfl⟩
  rw [hV.out]
  by_cases hsz : s.size < 2
  · have ev : Hid (V = .tuple #[.agg #[.int .i64 0, .int .i64 0, .string ⟨#[]⟩], .int .i64 0]) := Lib.hid (by rw [← hV.out]; simp [refV, refG, szOf, hsz])
    go_enter Try.func30, Try.ntmps30
    go_wp2
    refine bodyPost_ret (v := .tuple #[.agg #[.int .i64 0, .int .i64 0, .string ⟨#[]⟩], .int .i64 0]) (by simp [results, Try.results30, go_sem]) rfl ?_
    exact ⟨retv ev.out.symm, below2 (below_alloc _ _) (below_alloc _ _)⟩
  · have hle : 2 ≤ s.size := by omega
    obtain ⟨t, ht⟩ : ∃ t, Hid (s.extract 0 2 = t) := ⟨_, Lib.hid rfl⟩
    obtain ⟨m, hm⟩ : ∃ m, Hid (headV 2 s = m) := ⟨_, Lib.hid rfl⟩
    have hml : m < 256 ^ 2 := by rw [← hm.out]; exact headV_lt 2 s (by omega)
    have hmt : Hid (numV t.data.toList = m) := Lib.hid (by rw [← ht.out]; exact hm.out)
    have htl : Hid (t.size ≤ 9223372036854775807) := Lib.hid (by rw [← ht.out, ByteArray.size_extract]; omega)
    have hm6 : m < 18446744073709551616 := by simpa using Nat.lt_of_lt_of_le hml (by decide)
    have hm2 : m < 65536 := by simpa using hml
    clear hml
    by_cases h1 : s.size - 2 < m
    · have ev : Hid (V = .tuple #[.agg #[.int .i64 0, .int .i64 0, .string ⟨#[]⟩], .int .i64 0]) := Lib.hid (by rw [← hV.out]; simp [refV, refG, szOf, hsz, hm.out, h1])
      have h1' : (s.size : Int) - 2 < (m : Int) := by omega
      clear h1
      go_enter Try.func30, Try.ntmps30
      go_wp2_with fail
      rw [ht.out]
      refine (value_any t _ htl.out m hmt.out).mono ?_
      rintro e w1 ⟨rfl, rfl⟩
      go_wp2
      refine bodyPost_ret (v := .tuple #[.agg #[.int .i64 0, .int .i64 0, .string ⟨#[]⟩], .int .i64 0]) (by simp [results, Try.results30, go_sem]) rfl ?_
      exact ⟨retv ev.out.symm, below2 (below_alloc _ _) (below_alloc _ _)⟩
    · have ev : Hid (V = .tuple #[.agg #[.int .i64 4, .int .i64 0, .string (s.extract 2 (2 + m))], .int .i64 (2 + m : Nat)]) := Lib.hid (by rw [← hV.out]; simp [refV, refG, szOf, hsz, hm.out, h1])
      have h1' : ¬ (s.size : Int) - 2 < (m : Int) := by omega
      have h2' : 2 + m ≤ s.size := by omega
      clear h1
      go_enter Try.func30, Try.ntmps30
      go_wp2_with fail
      rw [ht.out]
      refine (value_any t _ htl.out m hmt.out).mono ?_
      rintro e w1 ⟨rfl, rfl⟩
      go_wp2
      refine bodyPost_ret (v := .tuple #[.agg #[.int .i64 4, .int .i64 0, .string (s.extract 2 (2 + m))], .int .i64 (2 + m : Nat)]) (by simp [results, Try.results30, go_sem]) rfl ?_
      exact ⟨retv ev.out.symm, below2 (below_alloc _ _) (below_alloc _ _)⟩
end Go.Proofs.Ytfpocddpnoighaa.Wr

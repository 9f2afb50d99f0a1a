/- item: the document's bytes; are lists alike? -/
import Derived.Test.YtfpocddpnoighaaItL
import Derived.Test.YtfpocddpnoighaaWrM
namespace Go.Proofs.Ytfpocddpnoighaa.It
open Go.RowKit Go.Proofs.Ytfpocddpnoighaa.L Go.Proofs.Ytfpocddpnoighaa.O Go.Proofs.Ytfpocddpnoighaa.A Go.Proofs.Ytfpocddpnoighaa.R Go.Proofs.Ytfpocddpnoighaa.S Go.Proofs.Ytfpocddpnoighaa.T Go.Proofs.Ytfpocddpnoighaa.E Go.Proofs.Ytfpocddpnoighaa.Wr Go.Proofs.Ytfpocddpnoighaa.F
set_option linter.unusedVariables false
set_option linter.unusedSimpArgs false

def str (l : List UInt8) : ByteArray := ⟨l.toArray⟩
theorem str_cat (a b : List UInt8) : str a ++ str b = str (a ++ b) := by
  apply ByteArray.ext
  simp [str]
theorem str_size (a : List UInt8) : (str a).size = a.length := by simp [str, ByteArray.size]
theorem u64_max (n : Int) : u64 n < 18446744073709551616 := by unfold u64; omega
set_option maxHeartbeats 1000000 in
theorem num_ref (n : Int) (w : World) (y : ByteArray) (hy : str (bigB (u64 n) 8) = y) : Calls Try.prog 93 #[.int .i64 n] w fun e w' => e = .returned (.string y) ∧ Below w.heap.size w w' := by
  have hw := u64_wrap n
  have hm := u64_max n
  obtain ⟨m, hmm⟩ : ∃ m, Hid (u64 n = m) := ⟨_, Lib.hid rfl⟩
  rw [hmm.out] at hw hm hy
  have HY := Lib.hid hy
  have HM := Lib.hid hm
  clear hy hm
  go_enter Try.func93, Try.ntmps93
  go_wp2_with fail
  refine (big_any m 8 HM.out (by omega) w).mono ?_
  rintro e w1 ⟨rfl, hb1⟩
  go_wp2
  go_ret
  exact ⟨retv (congrArg Value.string HY.out), hb1⟩
theorem no_big {a b : Nat} (h : a + b ≤ 9223372036854775807) : ¬ 9223372036854775807 < a + b := by omega
set_option maxHeartbeats 4000000 in
set_option maxRecDepth 100000 in
theorem tid_ref (t1 t2 t3 : Int) (w : World) : Calls Try.prog 43 #[.agg #[.int .i64 t1, .int .i64 t2, .int .i64 t3]] w fun e w' => e = .returned (.string (str (numsB [t1, t2, t3]))) ∧ Below w.heap.size w w' := by
  obtain ⟨ya, hya⟩ : ∃ y, Hid (str (bigB (u64 t1) 8) = y) := ⟨_, Lib.hid rfl⟩
  obtain ⟨yb, hyb⟩ : ∃ y, Hid (str (bigB (u64 t2) 8) = y) := ⟨_, Lib.hid rfl⟩
  obtain ⟨yc, hyc⟩ : ∃ y, Hid (str (bigB (u64 t3) 8) = y) := ⟨_, Lib.hid rfl⟩
  have hres : Hid (ya ++ yb ++ yc = str (numsB [t1, t2, t3])) := Lib.hid (by rw [← hya.out, ← hyb.out, ← hyc.out, str_cat, str_cat]; simp [numsB])
  have z1 : ¬ 9223372036854775807 < ya.size + yb.size := by rw [← hya.out, ← hyb.out, str_size, str_size, len_big, len_big]; omega
  have z2 : ¬ 9223372036854775807 < ya.size + yb.size + yc.size := by rw [← hya.out, ← hyb.out, ← hyc.out, str_size, str_size, str_size, len_big, len_big, len_big]; omega
  obtain ⟨g, hg⟩ : ∃ g, Hid (w.heap.size = g) := ⟨_, Lib.hid rfl⟩
  obtain ⟨W0, hW0⟩ : ∃ W0, Hid (w.alloc (.cells #[.int .i64 t1, .int .i64 t2, .int .i64 t3] 51) = W0) := ⟨_, Lib.hid rfl⟩
  have hb0 : Hid (Below w.heap.size w W0) := Lib.hid (by rw [← hW0.out]; exact below_alloc _ _)
  have hA : Hid (W0.heap[g]? = some (.cells #[.int .i64 t1, .int .i64 t2, .int .i64 t3] 51 (0, 0))) := Lib.hid (by rw [← hW0.out, ← hg.out]; exact heap_alloc_new _ _)
  have hS0 : Below W0.heap.size W0 W0.drew := below_drew (Below.refl _ _)
  go_enter Try.func43, Try.ntmps43
  go_wp2_with fail
  rw [hW0.out, hg.out]
  refine wp_region_one (fun W => Below W0.heap.size W0 W) (fun u v => Below u.heap.size u v) (fun a i => match i with
      | 0 => (fun v _ => v = .pointer (some ⟨g, 0, none⟩))
      | 1 => (fun v _ => v = .int .i64 t1)
      | 2 => (fun v _ => v = .string ya)
      | 3 => (fun v _ => v = .pointer (some ⟨g, 1, none⟩))
      | 4 => (fun v _ => v = .int .i64 t2)
      | 5 => (fun v _ => v = .string yb)
      | 6 => (fun v _ => v = .string (ya ++ yb))
      | 7 => (fun v _ => v = .pointer (some ⟨g, 2, none⟩))
      | 8 => (fun v _ => v = .int .i64 t3)
      | 9 => (fun v _ => v = .string yc)
      | 10 => (fun v _ => v = .string (ya ++ yb ++ yc))
      | 11 => (fun v _ => v = .string (ya ++ yb ++ yc))
      | _ => (fun _ _ => True)) #[0, 1, 3, 0, 8, 31, 63, 0, 128, 447, 1023, 2047] #[0, 1, 2, 0, 8, 16, 36, 0, 128, 256, 576, 1024] 4095 (by kernel_rfl) 12 rfl (fun m hm => by subst hm; kernel_rfl) (by kernel_rfl) (fun w => Below.refl _ w) (fun u v w h1 h2 => below2 h1 h2) ?_ (hS0) ?_ ?_
  · intro i hi
    rcases (by omega : i = 0 ∨ i = 1 ∨ i = 2 ∨ i = 3 ∨ i = 4 ∨ i = 5 ∨ i = 6 ∨ i = 7 ∨ i = 8 ∨ i = 9 ∨ i = 10 ∨ i = 11) with rfl | rfl | rfl | rfl | rfl | rfl | rfl | rfl | rfl | rfl | rfl | rfl
    · exact fun v w w' h hr => by exact h
    · exact fun v w w' h hr => by exact h
    · exact fun v w w' h hr => by exact h
    · exact fun v w w' h hr => by exact h
    · exact fun v w w' h hr => by exact h
    · exact fun v w w' h hr => by exact h
    · exact fun v w w' h hr => by exact h
    · exact fun v w w' h hr => by exact h
    · exact fun v w w' h hr => by exact h
    · exact fun v w w' h hr => by exact h
    · exact fun v w w' h hr => by exact h
    · exact fun v w w' h hr => by exact h
  · intro i hi
    rcases (by omega : i = 0 ∨ i = 1 ∨ i = 2 ∨ i = 3 ∨ i = 4 ∨ i = 5 ∨ i = 6 ∨ i = 7 ∨ i = 8 ∨ i = 9 ∨ i = 10 ∨ i = 11) with rfl | rfl | rfl | rfl | rfl | rfl | rfl | rfl | rfl | rfl | rfl | rfl
    · -- 0: Op.fieldAddr 51 (Operand.tmp 1) 0
      intro l hl vs W hS hR hp
      obtain rfl : l = [] := hl.symm.trans (by kernel_rfl)
      clear hp hl
      refine opgoal (_) (some 3) rfl rfl fun K hK => ?_
      refine Runs.mk ?_
      simp only [putAll]
      go_simp
      refine hK _ _ ?_ hS ((fun w => Below.refl _ w) W) _ rfl rfl
      first | rfl | go_simp | simp
    · -- 1: Op.load 3 (Operand.tmp 3)
      intro l hl vs W hS hR hp
      obtain rfl : l = [(0, 3)] := hl.symm.trans (by kernel_rfl)
      have p0 : vs 0 = _ := hp 0 (by decide) (by decide)
      clear hp hl
      refine opgoal (_) (some 4) rfl rfl fun K hK => ?_
      obtain ⟨f0, f1, f2⟩ := td_cells (keep_block (.of_below (S := []) hS) hA.out (by simp))
      refine Runs.mk ?_
      simp only [putAll]
      go_simp
      refine hK _ _ ?_ hS ((fun w => Below.refl _ w) W) _ rfl rfl
      first | rfl | go_simp | simp
    · -- 2: Op.call { callee := Callee.value (Operand.func 93), args := #[Operand.tmp 4], argTypes := #[3] }
      intro l hl vs W hS hR hp
      obtain rfl : l = [(0, 3), (1, 4)] := hl.symm.trans (by kernel_rfl)
      have p1 : vs 1 = _ := hp 1 (by decide) (by decide)
      clear hp hl
      refine opgoal (_) (some 5) rfl rfl fun K hK => ?_
      refine Runs.mk ?_
      simp only [putAll]
      go_simp
      refine (num_ref t1 W ya hya.out).mono ?_
      rintro e w' ⟨rfl, hb⟩
      go_simp
      exact hK _ _ rfl (below2 hS hb) hb _ rfl rfl
    · -- 3: Op.fieldAddr 51 (Operand.tmp 1) 1
      intro l hl vs W hS hR hp
      obtain rfl : l = [] := hl.symm.trans (by kernel_rfl)
      clear hp hl
      refine opgoal (_) (some 6) rfl rfl fun K hK => ?_
      refine Runs.mk ?_
      simp only [putAll]
      go_simp
      refine hK _ _ ?_ hS ((fun w => Below.refl _ w) W) _ rfl rfl
      first | rfl | go_simp | simp
    · -- 4: Op.load 3 (Operand.tmp 6)
      intro l hl vs W hS hR hp
      obtain rfl : l = [(3, 6)] := hl.symm.trans (by kernel_rfl)
      have p3 : vs 3 = _ := hp 3 (by decide) (by decide)
      clear hp hl
      refine opgoal (_) (some 7) rfl rfl fun K hK => ?_
      obtain ⟨f0, f1, f2⟩ := td_cells (keep_block (.of_below (S := []) hS) hA.out (by simp))
      refine Runs.mk ?_
      simp only [putAll]
      go_simp
      refine hK _ _ ?_ hS ((fun w => Below.refl _ w) W) _ rfl rfl
      first | rfl | go_simp | simp
    · -- 5: Op.call { callee := Callee.value (Operand.func 93), args := #[Operand.tmp 7], argTypes := #[3] }
      intro l hl vs W hS hR hp
      obtain rfl : l = [(0, 3), (1, 4), (2, 5), (3, 6), (4, 7)] := hl.symm.trans (by kernel_rfl)
      have p4 : vs 4 = _ := hp 4 (by decide) (by decide)
      clear hp hl
      refine opgoal (_) (some 8) rfl rfl fun K hK => ?_
      refine Runs.mk ?_
      simp only [putAll]
      go_simp
      refine (num_ref t2 W yb hyb.out).mono ?_
      rintro e w' ⟨rfl, hb⟩
      go_simp
      exact hK _ _ rfl (below2 hS hb) hb _ rfl rfl
    · -- 6: Op.binOp BinOp.add 9 (Operand.tmp 5) (Operand.tmp 8) 9
      intro l hl vs W hS hR hp
      obtain rfl : l = [(0, 3), (1, 4), (2, 5), (3, 6), (4, 7), (5, 8)] := hl.symm.trans (by kernel_rfl)
      have p2 : vs 2 = _ := hp 2 (by decide) (by decide)
      have p5 : vs 5 = _ := hp 5 (by decide) (by decide)
      clear hp hl
      refine opgoal (_) (some 9) rfl rfl fun K hK => ?_
      refine Runs.mk ?_
      simp only [putAll]
      go_simp
      refine hK _ _ ?_ hS ((fun w => Below.refl _ w) W) _ rfl rfl
      first | rfl | go_simp | simp
    · -- 7: Op.fieldAddr 51 (Operand.tmp 1) 2
      intro l hl vs W hS hR hp
      obtain rfl : l = [] := hl.symm.trans (by kernel_rfl)
      clear hp hl
      refine opgoal (_) (some 10) rfl rfl fun K hK => ?_
      refine Runs.mk ?_
      simp only [putAll]
      go_simp
      refine hK _ _ ?_ hS ((fun w => Below.refl _ w) W) _ rfl rfl
      first | rfl | go_simp | simp
    · -- 8: Op.load 3 (Operand.tmp 10)
      intro l hl vs W hS hR hp
      obtain rfl : l = [(7, 10)] := hl.symm.trans (by kernel_rfl)
      have p7 : vs 7 = _ := hp 7 (by decide) (by decide)
      clear hp hl
      refine opgoal (_) (some 11) rfl rfl fun K hK => ?_
      obtain ⟨f0, f1, f2⟩ := td_cells (keep_block (.of_below (S := []) hS) hA.out (by simp))
      refine Runs.mk ?_
      simp only [putAll]
      go_simp
      refine hK _ _ ?_ hS ((fun w => Below.refl _ w) W) _ rfl rfl
      first | rfl | go_simp | simp
    · -- 9: Op.call { callee := Callee.value (Operand.func 93), args := #[Operand.tmp 11], argTypes := #[3] }
      intro l hl vs W hS hR hp
      obtain rfl : l = [(0, 3), (1, 4), (2, 5), (3, 6), (4, 7), (5, 8), (7, 10), (8, 11)] := hl.symm.trans (by kernel_rfl)
      have p8 : vs 8 = _ := hp 8 (by decide) (by decide)
      clear hp hl
      refine opgoal (_) (some 12) rfl rfl fun K hK => ?_
      refine Runs.mk ?_
      simp only [putAll]
      go_simp
      refine (num_ref t3 W yc hyc.out).mono ?_
      rintro e w' ⟨rfl, hb⟩
      go_simp
      exact hK _ _ rfl (below2 hS hb) hb _ rfl rfl
    · -- 10: Op.binOp BinOp.add 9 (Operand.tmp 9) (Operand.tmp 12) 9
      intro l hl vs W hS hR hp
      obtain rfl : l = [(0, 3), (1, 4), (2, 5), (3, 6), (4, 7), (5, 8), (6, 9), (7, 10), (8, 11), (9, 12)] := hl.symm.trans (by kernel_rfl)
      have p6 : vs 6 = _ := hp 6 (by decide) (by decide)
      have p9 : vs 9 = _ := hp 9 (by decide) (by decide)
      clear hp hl
      refine opgoal (_) (some 13) rfl rfl fun K hK => ?_
      refine Runs.mk ?_
      simp only [putAll]
      go_simp
      refine hK _ _ ?_ hS ((fun w => Below.refl _ w) W) _ rfl rfl
      first | rfl | go_simp | simp
    · -- 11: Op.assign (Operand.tmp 13)
      intro l hl vs W hS hR hp
      obtain rfl : l = [(0, 3), (1, 4), (2, 5), (3, 6), (4, 7), (5, 8), (6, 9), (7, 10), (8, 11), (9, 12), (10, 13)] := hl.symm.trans (by kernel_rfl)
      have p10 : vs 10 = _ := hp 10 (by decide) (by decide)
      clear hp hl
      refine opgoal (_) (some 2) rfl rfl fun K hK => ?_
      refine Runs.mk ?_
      simp only [putAll]
      go_simp
      refine hK _ _ ?_ hS ((fun w => Below.refl _ w) W) _ rfl rfl
      first | rfl | go_simp | simp
  · intro l hl vs W hS hR hp
    obtain rfl : l = [(0, 3), (1, 4), (2, 5), (3, 6), (4, 7), (5, 8), (6, 9), (7, 10), (8, 11), (9, 12), (10, 13), (11, 2)] := hl.symm.trans (by kernel_rfl)
    have p0 : vs 0 = _ := hp 0 (by decide) (by decide)
    have p1 : vs 1 = _ := hp 1 (by decide) (by decide)
    have p2 : vs 2 = _ := hp 2 (by decide) (by decide)
    have p3 : vs 3 = _ := hp 3 (by decide) (by decide)
    have p4 : vs 4 = _ := hp 4 (by decide) (by decide)
    have p5 : vs 5 = _ := hp 5 (by decide) (by decide)
    have p6 : vs 6 = _ := hp 6 (by decide) (by decide)
    have p7 : vs 7 = _ := hp 7 (by decide) (by decide)
    have p8 : vs 8 = _ := hp 8 (by decide) (by decide)
    have p9 : vs 9 = _ := hp 9 (by decide) (by decide)
    have p10 : vs 10 = _ := hp 10 (by decide) (by decide)
    have p11 : vs 11 = _ := hp 11 (by decide) (by decide)
    clear hp hl
    simp only [putAll_mk, setAll, List.setIfInBounds_toArray, List.set_cons_succ, List.set_cons_zero, p0, p1, p2, p3, p4, p5, p6, p7, p8, p9, p10, p11]
    have HS := Lib.hid (below2 hb0.out hS)
    clear hS hR hS0
    go_wp2
    go_ret
    exact ⟨retv (congrArg Value.string hres.out), HS.out⟩
set_option maxHeartbeats 4000000 in
set_option maxRecDepth 100000 in
theorem nodes_refs (xs : List Int) (A : Option Addr) (n c : Nat) (w : World) (hr : Rd w A n (xs.map (Value.int .i64))) (hn : n ≤ 65535) : Calls Try.prog 45 #[.slice A n c] w fun e w' => e = .returned (.string (str (bigB n 2 ++ numsB xs))) ∧ Below w.heap.size w w' := by
  have hn9 := hr.2.1
  have HR := Lib.hid hr
  have HN : Hid (xs.length = n) := Lib.hid (by simpa using hr.len)
  have H0 := Lib.hid (big_any n 2 (by omega) (by omega) w)
  clear hr
  go_enter Try.func45, Try.ntmps45
  go_wp2_with fail
  refine H0.out.mono ?_
  rintro e w1 ⟨rfl, hb1⟩
  have HB1 := Lib.hid hb1
  clear hb1 H0
  go_wp2
  go_loopw [3, 4] (fun s i wr => ∃ k : Nat, k ≤ n ∧ s = .string (str (bigB n 2 ++ numsB (xs.take k))) ∧ i = .int .i64 k ∧ Below w.heap.size w wr) (fun _ i _ => n - (intOf i).toNat)
  case atStart => exact ⟨0, by omega, by simp [numsB, str], rfl, HB1.out⟩
  case round =>
    obtain ⟨k, hk, rfl, rfl, hb⟩ := hrel
    by_cases hlt : k < n
    · have hkl : k < xs.length := by have := HN.out; omega
      obtain ⟨x, hx⟩ : ∃ x, Hid (xs[k] = x) := ⟨_, Lib.hid rfl⟩
      obtain ⟨ab, ao, hAe, hc⟩ := (HR.out.below hb).2.2 (by omega)
      subst hAe
      have c0 := rd_at hc hlt hkl hx.out
      obtain ⟨y0, hy0⟩ : ∃ y, Hid (str (bigB n 2 ++ numsB (xs.take k)) = y) := ⟨_, Lib.hid rfl⟩
      obtain ⟨yx, hyx⟩ : ∃ y, Hid (str (bigB (u64 x) 8) = y) := ⟨_, Lib.hid rfl⟩
      have z1 : y0.size + yx.size ≤ 9223372036854775807 := by rw [← hy0.out, ← hyx.out, str_size, str_size, len_big, List.length_append, len_big, len_nums, List.length_take]; omega
      have hnext : Hid (str (bigB n 2 ++ numsB (xs.take (k + 1))) = y0 ++ yx) := Lib.hid (by
        rw [← hy0.out, ← hyx.out, str_cat, ← take_snoc xs k hkl, hx.out]
        simp [numsB])
      have HB := Lib.hid hb
      have HC := Lib.hid (num_ref x wr yx hyx.out)
      rw [hy0.out]
      clear hc hb
      go_wp2_with fail
      refine HC.out.mono ?_
      rintro e w2 ⟨rfl, hb2⟩
      go_wp2
      go_roundw
      case rel => exact ⟨k + 1, by omega, by rw [hnext.out], by go_num, below2 HB.out hb2⟩
      case measure => simp [intOf]; omega
    · have hkn : n = k := by omega
      have hres : Hid (str (bigB n 2 ++ numsB (xs.take k)) = str (bigB n 2 ++ numsB xs)) := Lib.hid (by rw [List.take_of_length_le (by have := HN.out; omega)])
      rw [hres.out]
      go_wp2
      go_ret
      exact ⟨rfl, hb⟩
set_option maxHeartbeats 8000000 in
set_option maxRecDepth 100000 in
theorem items_refs (l : List Im) (A : Option Addr) (n c : Nat) (w : World) (hr : Ims w A n l) (hn : n ≤ 65535) : Calls Try.prog 44 #[.slice A n c] w fun e w' => e = .returned (.string (str (bigB n 2 ++ itemsB l))) ∧ Below w.heap.size w w' := by
  have hn9 := hr.rd.2.1
  have H := Lib.hid hr
  have HN := Lib.hid hr.len
  have H0 := Lib.hid (big_any n 2 (by omega) (by omega) w)
  clear hr
  go_enter Try.func44, Try.ntmps44
  go_wp2_with fail
  refine H0.out.mono ?_
  rintro e w1 ⟨rfl, hb1⟩
  have HB1 := Lib.hid hb1
  clear hb1 H0
  go_wp2
  go_loopw [3, 4] (fun s i wr => ∃ k : Nat, k ≤ n ∧ s = .string (str (bigB n 2 ++ itemsB (l.take k))) ∧ i = .int .i64 k ∧ Below w.heap.size w wr) (fun _ i _ => n - (intOf i).toNat)
  case atStart => exact ⟨0, by omega, by simp [itemsB, str], rfl, HB1.out⟩
  case round =>
    obtain ⟨k, hk, rfl, rfl, hb0⟩ := hrel
    have hb := Lib.hid hb0
    by_cases hlt : k < n
    · have hkl : k < l.length := by have := HN.out; omega
      obtain ⟨x, hx⟩ : ∃ x, Hid (l[k] = x) := ⟨_, Lib.hid rfl⟩
      obtain ⟨ab, ao, hAe, c0, c1, c2, c3, c4⟩ := (H.out.below hb0).at k hlt hkl x hx.out
      subst hAe
      obtain ⟨y0, hy0⟩ : ∃ y, Hid (str (bigB n 2 ++ itemsB (l.take k)) = y) := ⟨_, Lib.hid rfl⟩
      obtain ⟨xc, xv, xl, xw, xn⟩ := x
      dsimp only at c0 c1 c2 c3 c4
      obtain ⟨yc, hyc⟩ : ∃ y, Hid (str (bigB (u64 xc) 8) = y) := ⟨_, Lib.hid rfl⟩
      obtain ⟨yv, hyv⟩ : ∃ y, Hid (str (bigB (u64 xv) 8) = y) := ⟨_, Lib.hid rfl⟩
      obtain ⟨yl, hyl⟩ : ∃ y, Hid (str (bigB (u64 xl) 8) = y) := ⟨_, Lib.hid rfl⟩
      obtain ⟨yn, hyn⟩ : ∃ y, Hid (str (bigB (u64 xn) 8) = y) := ⟨_, Lib.hid rfl⟩
      obtain ⟨yw, hyw⟩ : ∃ y, Hid (str (bigB (if xw then 1 else 0) 1) = y) := ⟨_, Lib.hid rfl⟩
      have q0 : y0.size ≤ 2 + 65535 * 33 := by rw [← hy0.out, str_size, List.length_append, len_big, len_items, List.length_take]; omega
      have q1 : yc.size = 8 := by rw [← hyc.out, str_size, len_big]
      have q2 : yv.size = 8 := by rw [← hyv.out, str_size, len_big]
      have q3 : yl.size = 8 := by rw [← hyl.out, str_size, len_big]
      have q4 : yw.size = 1 := by rw [← hyw.out, str_size, len_big]
      have q5 : yn.size = 8 := by rw [← hyn.out, str_size, len_big]
      have z1 : ¬ 9223372036854775807 < y0.size + yc.size := by omega
      have z2 : ¬ 9223372036854775807 < y0.size + yc.size + yv.size := by omega
      have z3 : ¬ 9223372036854775807 < y0.size + yc.size + yv.size + yl.size := by omega
      have z4 : ¬ 9223372036854775807 < y0.size + yc.size + yv.size + yl.size + yw.size := by omega
      have z5 : ¬ 9223372036854775807 < y0.size + yc.size + yv.size + yl.size + yw.size + yn.size := by omega
      clear q0 q1 q2 q3 q4 q5
      have hnext : Hid (str (bigB n 2 ++ itemsB (l.take (k + 1))) = y0 ++ yc ++ yv ++ yl ++ yw ++ yn) := Lib.hid (by
        rw [← hy0.out, ← hyc.out, ← hyv.out, ← hyl.out, ← hyn.out, ← hyw.out, str_cat, str_cat, str_cat, str_cat, str_cat, items_snoc l k hkl _ hx.out]
        have : bigB (if xw then 1 else 0) 1 = [if xw then 1 else 0] := by cases xw <;> kernel_rfl
        rw [this]
        simp [itemB, numsB])
      rw [hy0.out]
      have C0 := Lib.hid c0
      have C1 := Lib.hid c1
      have C2 := Lib.hid c2
      have C4 := Lib.hid c4
      have hS0 : Below wr.heap.size wr wr.drew := below_drew (Below.refl _ _)
      clear hb0 c0 c1 c2 c4
      cases xw
      case false =>
        have HYW : Hid ((⟨(bigB 0 1).toArray⟩ : ByteArray) = yw) := Lib.hid hyw.out
        go_wp2_with fail
        refine wp_region_one (fun W => Below wr.heap.size wr W) (fun u v => Below u.heap.size u v) (fun a i => match i with
            | 0 => (fun v _ => v = .string y0)
            | 1 => (fun v _ => v = .slice (some ⟨ab, ao, none⟩) n c)
            | 2 => (fun v _ => v = .int .i64 (k : Nat))
            | 3 => (fun v _ => v = .pointer (some ⟨ab, ao + k * 5, none⟩))
            | 4 => (fun v _ => v = .pointer (some ⟨ab, ao + k * 5, none⟩))
            | 5 => (fun v _ => v = .int .i64 xc)
            | 6 => (fun v _ => v = .string yc)
            | 7 => (fun v _ => v = .string (y0 ++ yc))
            | 8 => (fun v _ => v = .slice (some ⟨ab, ao, none⟩) n c)
            | 9 => (fun v _ => v = .int .i64 (k : Nat))
            | 10 => (fun v _ => v = .pointer (some ⟨ab, ao + k * 5, none⟩))
            | 11 => (fun v _ => v = .pointer (some ⟨ab, ao + k * 5 + 1, none⟩))
            | 12 => (fun v _ => v = .int .i64 xv)
            | 13 => (fun v _ => v = .string yv)
            | 14 => (fun v _ => v = .string (y0 ++ yc ++ yv))
            | 15 => (fun v _ => v = .slice (some ⟨ab, ao, none⟩) n c)
            | 16 => (fun v _ => v = .int .i64 (k : Nat))
            | 17 => (fun v _ => v = .pointer (some ⟨ab, ao + k * 5, none⟩))
            | 18 => (fun v _ => v = .pointer (some ⟨ab, ao + k * 5 + 2, none⟩))
            | 19 => (fun v _ => v = .int .i64 xl)
            | 20 => (fun v _ => v = .string yl)
            | 21 => (fun v _ => v = .string (y0 ++ yc ++ yv ++ yl))
            | 22 => (fun v _ => v = .int .i64 0)
            | 23 => (fun v _ => v = .int .u64 0)
            | 24 => (fun v _ => v = .string yw)
            | 25 => (fun v _ => v = .string (y0 ++ yc ++ yv ++ yl ++ yw))
            | 26 => (fun v _ => v = .slice (some ⟨ab, ao, none⟩) n c)
            | 27 => (fun v _ => v = .int .i64 (k : Nat))
            | 28 => (fun v _ => v = .pointer (some ⟨ab, ao + k * 5, none⟩))
            | 29 => (fun v _ => v = .pointer (some ⟨ab, ao + k * 5 + 4, none⟩))
            | 30 => (fun v _ => v = .int .i64 xn)
            | 31 => (fun v _ => v = .string yn)
            | 32 => (fun v _ => v = .string (y0 ++ yc ++ yv ++ yl ++ yw ++ yn))
            | 33 => (fun v _ => v = .string (y0 ++ yc ++ yv ++ yl ++ yw ++ yn))
            | _ => (fun _ _ => True)) #[0, 0, 0, 6, 14, 30, 62, 127, 0, 0, 768, 1792, 3840, 8062, 16383, 0, 0, 98304, 229376, 491520, 1032062, 2097151, 0, 4194304, 14663550, 33554431, 0, 0, 201326592, 469762048, 1006632960, 2111815550, 4294967295, 8589934591] #[0, 0, 0, 6, 8, 16, 32, 65, 0, 0, 768, 1024, 2048, 4096, 8320, 0, 0, 98304, 131072, 262144, 524288, 1064960, 0, 4194304, 8388608, 18874368, 0, 0, 201326592, 268435456, 536870912, 1073741824, 2181038080, 4294967296] 17179869183 (by kernel_rfl) 34 rfl (fun m hm => by subst hm; kernel_rfl) (by kernel_rfl) (fun w => Below.refl _ w) (fun u v w h1 h2 => below2 h1 h2) ?_ (hS0) ?_ ?_
        · intro i hi
          rcases (by omega : i = 0 ∨ i = 1 ∨ i = 2 ∨ i = 3 ∨ i = 4 ∨ i = 5 ∨ i = 6 ∨ i = 7 ∨ i = 8 ∨ i = 9 ∨ i = 10 ∨ i = 11 ∨ i = 12 ∨ i = 13 ∨ i = 14 ∨ i = 15 ∨ i = 16 ∨ i = 17 ∨ i = 18 ∨ i = 19 ∨ i = 20 ∨ i = 21 ∨ i = 22 ∨ i = 23 ∨ i = 24 ∨ i = 25 ∨ i = 26 ∨ i = 27 ∨ i = 28 ∨ i = 29 ∨ i = 30 ∨ i = 31 ∨ i = 32 ∨ i = 33) with rfl | rfl | rfl | rfl | rfl | rfl | rfl | rfl | rfl | rfl | rfl | rfl | rfl | rfl | rfl | rfl | rfl | rfl | rfl | rfl | rfl | rfl | rfl | rfl | rfl | rfl | rfl | rfl | rfl | rfl | rfl | rfl | rfl | rfl
          · exact fun v w w' h hr => by exact h
          · exact fun v w w' h hr => by exact h
          · exact fun v w w' h hr => by exact h
          · exact fun v w w' h hr => by exact h
          · exact fun v w w' h hr => by exact h
          · exact fun v w w' h hr => by exact h
          · exact fun v w w' h hr => by exact h
          · exact fun v w w' h hr => by exact h
          · exact fun v w w' h hr => by exact h
          · exact fun v w w' h hr => by exact h
          · exact fun v w w' h hr => by exact h
          · exact fun v w w' h hr => by exact h
          · exact fun v w w' h hr => by exact h
          · exact fun v w w' h hr => by exact h
          · exact fun v w w' h hr => by exact h
          · exact fun v w w' h hr => by exact h
          · exact fun v w w' h hr => by exact h
          · exact fun v w w' h hr => by exact h
          · exact fun v w w' h hr => by exact h
          · exact fun v w w' h hr => by exact h
          · exact fun v w w' h hr => by exact h
          · exact fun v w w' h hr => by exact h
          · exact fun v w w' h hr => by exact h
          · exact fun v w w' h hr => by exact h
          · exact fun v w w' h hr => by exact h
          · exact fun v w w' h hr => by exact h
          · exact fun v w w' h hr => by exact h
          · exact fun v w w' h hr => by exact h
          · exact fun v w w' h hr => by exact h
          · exact fun v w w' h hr => by exact h
          · exact fun v w w' h hr => by exact h
          · exact fun v w w' h hr => by exact h
          · exact fun v w w' h hr => by exact h
          · exact fun v w w' h hr => by exact h
        · intro i hi
          rcases (by omega : i = 0 ∨ i = 1 ∨ i = 2 ∨ i = 3 ∨ i = 4 ∨ i = 5 ∨ i = 6 ∨ i = 7 ∨ i = 8 ∨ i = 9 ∨ i = 10 ∨ i = 11 ∨ i = 12 ∨ i = 13 ∨ i = 14 ∨ i = 15 ∨ i = 16 ∨ i = 17 ∨ i = 18 ∨ i = 19 ∨ i = 20 ∨ i = 21 ∨ i = 22 ∨ i = 23 ∨ i = 24 ∨ i = 25 ∨ i = 26 ∨ i = 27 ∨ i = 28 ∨ i = 29 ∨ i = 30 ∨ i = 31 ∨ i = 32 ∨ i = 33) with rfl | rfl | rfl | rfl | rfl | rfl | rfl | rfl | rfl | rfl | rfl | rfl | rfl | rfl | rfl | rfl | rfl | rfl | rfl | rfl | rfl | rfl | rfl | rfl | rfl | rfl | rfl | rfl | rfl | rfl | rfl | rfl | rfl | rfl
          · -- 0: Op.move (Operand.tmp 3)
            intro l hl vs W hS hR hp
            obtain rfl : l = [] := hl.symm.trans (by kernel_rfl)
            clear hp hl
            refine opgoal (_) (some 21) rfl rfl fun K hK => ?_
            refine Runs.mk ?_
            simp only [putAll]
            go_simp
            refine hK _ _ ?_ hS ((fun w => Below.refl _ w) W) _ rfl rfl
            first | rfl | go_simp | simp
          · -- 1: Op.move (Operand.tmp 0)
            intro l hl vs W hS hR hp
            obtain rfl : l = [] := hl.symm.trans (by kernel_rfl)
            clear hp hl
            refine opgoal (_) (some 22) rfl rfl fun K hK => ?_
            refine Runs.mk ?_
            simp only [putAll]
            go_simp
            refine hK _ _ ?_ hS ((fun w => Below.refl _ w) W) _ rfl rfl
            first | rfl | go_simp | simp
          · -- 2: Op.move (Operand.tmp 4)
            intro l hl vs W hS hR hp
            obtain rfl : l = [] := hl.symm.trans (by kernel_rfl)
            clear hp hl
            refine opgoal (_) (some 23) rfl rfl fun K hK => ?_
            refine Runs.mk ?_
            simp only [putAll]
            go_simp
            refine hK _ _ ?_ hS ((fun w => Below.refl _ w) W) _ rfl rfl
            first | rfl | go_simp | simp
          · -- 3: Op.indexAddr 54 (Operand.tmp 22) (Operand.tmp 23)
            intro l hl vs W hS hR hp
            obtain rfl : l = [(1, 22), (2, 23)] := hl.symm.trans (by kernel_rfl)
            have p1 : vs 1 = _ := hp 1 (by decide) (by decide)
            have p2 : vs 2 = _ := hp 2 (by decide) (by decide)
            clear hp hl
            refine opgoal (_) (some 24) rfl rfl fun K hK => ?_
            refine Runs.mk ?_
            simp only [putAll]
            go_simp
            refine hK _ _ ?_ hS ((fun w => Below.refl _ w) W) _ rfl rfl
            first | rfl | go_simp | simp
          · -- 4: Op.fieldAddr 86 (Operand.tmp 24) 0
            intro l hl vs W hS hR hp
            obtain rfl : l = [(1, 22), (2, 23), (3, 24)] := hl.symm.trans (by kernel_rfl)
            have p3 : vs 3 = _ := hp 3 (by decide) (by decide)
            clear hp hl
            refine opgoal (_) (some 25) rfl rfl fun K hK => ?_
            refine Runs.mk ?_
            simp only [putAll]
            go_simp
            refine hK _ _ ?_ hS ((fun w => Below.refl _ w) W) _ rfl rfl
            first | rfl | go_simp | simp
          · -- 5: Op.load 3 (Operand.tmp 25)
            intro l hl vs W hS hR hp
            obtain rfl : l = [(1, 22), (2, 23), (3, 24), (4, 25)] := hl.symm.trans (by kernel_rfl)
            have p4 : vs 4 = _ := hp 4 (by decide) (by decide)
            clear hp hl
            refine opgoal (_) (some 26) rfl rfl fun K hK => ?_
            have fc := cell_below hS C0.out
            refine Runs.mk ?_
            simp only [putAll]
            go_simp
            refine hK _ _ ?_ hS ((fun w => Below.refl _ w) W) _ rfl rfl
            first | rfl | go_simp | simp
          · -- 6: Op.call { callee := Callee.value (Operand.func 93), args := #[Operand.tmp 26], argTypes := #[3] }
            intro l hl vs W hS hR hp
            obtain rfl : l = [(1, 22), (2, 23), (3, 24), (4, 25), (5, 26)] := hl.symm.trans (by kernel_rfl)
            have p5 : vs 5 = _ := hp 5 (by decide) (by decide)
            clear hp hl
            refine opgoal (_) (some 27) rfl rfl fun K hK => ?_
            refine Runs.mk ?_
            simp only [putAll]
            go_simp
            refine (num_ref xc W yc hyc.out).mono ?_
            rintro e w' ⟨rfl, hb⟩
            go_simp
            exact hK _ _ rfl (below2 hS hb) hb _ rfl rfl
          · -- 7: Op.binOp BinOp.add 9 (Operand.tmp 21) (Operand.tmp 27) 9
            intro l hl vs W hS hR hp
            obtain rfl : l = [(0, 21), (1, 22), (2, 23), (3, 24), (4, 25), (5, 26), (6, 27)] := hl.symm.trans (by kernel_rfl)
            have p0 : vs 0 = _ := hp 0 (by decide) (by decide)
            have p6 : vs 6 = _ := hp 6 (by decide) (by decide)
            clear hp hl
            refine opgoal (_) (some 28) rfl rfl fun K hK => ?_
            refine Runs.mk ?_
            simp only [putAll]
            go_simp
            refine hK _ _ ?_ hS ((fun w => Below.refl _ w) W) _ rfl rfl
            first | rfl | go_simp | simp
          · -- 8: Op.move (Operand.tmp 0)
            intro l hl vs W hS hR hp
            obtain rfl : l = [] := hl.symm.trans (by kernel_rfl)
            clear hp hl
            refine opgoal (_) (some 29) rfl rfl fun K hK => ?_
            refine Runs.mk ?_
            simp only [putAll]
            go_simp
            refine hK _ _ ?_ hS ((fun w => Below.refl _ w) W) _ rfl rfl
            first | rfl | go_simp | simp
          · -- 9: Op.move (Operand.tmp 4)
            intro l hl vs W hS hR hp
            obtain rfl : l = [] := hl.symm.trans (by kernel_rfl)
            clear hp hl
            refine opgoal (_) (some 30) rfl rfl fun K hK => ?_
            refine Runs.mk ?_
            simp only [putAll]
            go_simp
            refine hK _ _ ?_ hS ((fun w => Below.refl _ w) W) _ rfl rfl
            first | rfl | go_simp | simp
          · -- 10: Op.indexAddr 54 (Operand.tmp 29) (Operand.tmp 30)
            intro l hl vs W hS hR hp
            obtain rfl : l = [(8, 29), (9, 30)] := hl.symm.trans (by kernel_rfl)
            have p8 : vs 8 = _ := hp 8 (by decide) (by decide)
            have p9 : vs 9 = _ := hp 9 (by decide) (by decide)
            clear hp hl
            refine opgoal (_) (some 31) rfl rfl fun K hK => ?_
            refine Runs.mk ?_
            simp only [putAll]
            go_simp
            refine hK _ _ ?_ hS ((fun w => Below.refl _ w) W) _ rfl rfl
            first | rfl | go_simp | simp
          · -- 11: Op.fieldAddr 86 (Operand.tmp 31) 1
            intro l hl vs W hS hR hp
            obtain rfl : l = [(8, 29), (9, 30), (10, 31)] := hl.symm.trans (by kernel_rfl)
            have p10 : vs 10 = _ := hp 10 (by decide) (by decide)
            clear hp hl
            refine opgoal (_) (some 32) rfl rfl fun K hK => ?_
            refine Runs.mk ?_
            simp only [putAll]
            go_simp
            refine hK _ _ ?_ hS ((fun w => Below.refl _ w) W) _ rfl rfl
            first | rfl | go_simp | simp
          · -- 12: Op.load 3 (Operand.tmp 32)
            intro l hl vs W hS hR hp
            obtain rfl : l = [(8, 29), (9, 30), (10, 31), (11, 32)] := hl.symm.trans (by kernel_rfl)
            have p11 : vs 11 = _ := hp 11 (by decide) (by decide)
            clear hp hl
            refine opgoal (_) (some 33) rfl rfl fun K hK => ?_
            have fc := cell_below hS C1.out
            refine Runs.mk ?_
            simp only [putAll]
            go_simp
            refine hK _ _ ?_ hS ((fun w => Below.refl _ w) W) _ rfl rfl
            first | rfl | go_simp | simp
          · -- 13: Op.call { callee := Callee.value (Operand.func 93), args := #[Operand.tmp 33], argTypes := #[3] }
            intro l hl vs W hS hR hp
            obtain rfl : l = [(1, 22), (2, 23), (3, 24), (4, 25), (5, 26), (6, 27), (8, 29), (9, 30), (10, 31), (11, 32), (12, 33)] := hl.symm.trans (by kernel_rfl)
            have p12 : vs 12 = _ := hp 12 (by decide) (by decide)
            clear hp hl
            refine opgoal (_) (some 34) rfl rfl fun K hK => ?_
            refine Runs.mk ?_
            simp only [putAll]
            go_simp
            refine (num_ref xv W yv hyv.out).mono ?_
            rintro e w' ⟨rfl, hb⟩
            go_simp
            exact hK _ _ rfl (below2 hS hb) hb _ rfl rfl
          · -- 14: Op.binOp BinOp.add 9 (Operand.tmp 28) (Operand.tmp 34) 9
            intro l hl vs W hS hR hp
            obtain rfl : l = [(0, 21), (1, 22), (2, 23), (3, 24), (4, 25), (5, 26), (6, 27), (7, 28), (8, 29), (9, 30), (10, 31), (11, 32), (12, 33), (13, 34)] := hl.symm.trans (by kernel_rfl)
            have p7 : vs 7 = _ := hp 7 (by decide) (by decide)
            have p13 : vs 13 = _ := hp 13 (by decide) (by decide)
            clear hp hl
            refine opgoal (_) (some 35) rfl rfl fun K hK => ?_
            refine Runs.mk ?_
            simp only [putAll]
            go_simp
            refine hK _ _ ?_ hS ((fun w => Below.refl _ w) W) _ rfl rfl
            first | rfl | go_simp | simp
          · -- 15: Op.move (Operand.tmp 0)
            intro l hl vs W hS hR hp
            obtain rfl : l = [] := hl.symm.trans (by kernel_rfl)
            clear hp hl
            refine opgoal (_) (some 36) rfl rfl fun K hK => ?_
            refine Runs.mk ?_
            simp only [putAll]
            go_simp
            refine hK _ _ ?_ hS ((fun w => Below.refl _ w) W) _ rfl rfl
            first | rfl | go_simp | simp
          · -- 16: Op.move (Operand.tmp 4)
            intro l hl vs W hS hR hp
            obtain rfl : l = [] := hl.symm.trans (by kernel_rfl)
            clear hp hl
            refine opgoal (_) (some 37) rfl rfl fun K hK => ?_
            refine Runs.mk ?_
            simp only [putAll]
            go_simp
            refine hK _ _ ?_ hS ((fun w => Below.refl _ w) W) _ rfl rfl
            first | rfl | go_simp | simp
          · -- 17: Op.indexAddr 54 (Operand.tmp 36) (Operand.tmp 37)
            intro l hl vs W hS hR hp
            obtain rfl : l = [(15, 36), (16, 37)] := hl.symm.trans (by kernel_rfl)
            have p15 : vs 15 = _ := hp 15 (by decide) (by decide)
            have p16 : vs 16 = _ := hp 16 (by decide) (by decide)
            clear hp hl
            refine opgoal (_) (some 38) rfl rfl fun K hK => ?_
            refine Runs.mk ?_
            simp only [putAll]
            go_simp
            refine hK _ _ ?_ hS ((fun w => Below.refl _ w) W) _ rfl rfl
            first | rfl | go_simp | simp
          · -- 18: Op.fieldAddr 86 (Operand.tmp 38) 2
            intro l hl vs W hS hR hp
            obtain rfl : l = [(15, 36), (16, 37), (17, 38)] := hl.symm.trans (by kernel_rfl)
            have p17 : vs 17 = _ := hp 17 (by decide) (by decide)
            clear hp hl
            refine opgoal (_) (some 39) rfl rfl fun K hK => ?_
            refine Runs.mk ?_
            simp only [putAll]
            go_simp
            refine hK _ _ ?_ hS ((fun w => Below.refl _ w) W) _ rfl rfl
            first | rfl | go_simp | simp
          · -- 19: Op.load 3 (Operand.tmp 39)
            intro l hl vs W hS hR hp
            obtain rfl : l = [(15, 36), (16, 37), (17, 38), (18, 39)] := hl.symm.trans (by kernel_rfl)
            have p18 : vs 18 = _ := hp 18 (by decide) (by decide)
            clear hp hl
            refine opgoal (_) (some 40) rfl rfl fun K hK => ?_
            have fc := cell_below hS C2.out
            refine Runs.mk ?_
            simp only [putAll]
            go_simp
            refine hK _ _ ?_ hS ((fun w => Below.refl _ w) W) _ rfl rfl
            first | rfl | go_simp | simp
          · -- 20: Op.call { callee := Callee.value (Operand.func 93), args := #[Operand.tmp 40], argTypes := #[3] }
            intro l hl vs W hS hR hp
            obtain rfl : l = [(1, 22), (2, 23), (3, 24), (4, 25), (5, 26), (6, 27), (8, 29), (9, 30), (10, 31), (11, 32), (12, 33), (13, 34), (15, 36), (16, 37), (17, 38), (18, 39), (19, 40)] := hl.symm.trans (by kernel_rfl)
            have p19 : vs 19 = _ := hp 19 (by decide) (by decide)
            clear hp hl
            refine opgoal (_) (some 41) rfl rfl fun K hK => ?_
            refine Runs.mk ?_
            simp only [putAll]
            go_simp
            refine (num_ref xl W yl hyl.out).mono ?_
            rintro e w' ⟨rfl, hb⟩
            go_simp
            exact hK _ _ rfl (below2 hS hb) hb _ rfl rfl
          · -- 21: Op.binOp BinOp.add 9 (Operand.tmp 35) (Operand.tmp 41) 9
            intro l hl vs W hS hR hp
            obtain rfl : l = [(0, 21), (1, 22), (2, 23), (3, 24), (4, 25), (5, 26), (6, 27), (7, 28), (8, 29), (9, 30), (10, 31), (11, 32), (12, 33), (13, 34), (14, 35), (15, 36), (16, 37), (17, 38), (18, 39), (19, 40), (20, 41)] := hl.symm.trans (by kernel_rfl)
            have p14 : vs 14 = _ := hp 14 (by decide) (by decide)
            have p20 : vs 20 = _ := hp 20 (by decide) (by decide)
            clear hp hl
            refine opgoal (_) (some 42) rfl rfl fun K hK => ?_
            refine Runs.mk ?_
            simp only [putAll]
            go_simp
            refine hK _ _ ?_ hS ((fun w => Below.refl _ w) W) _ rfl rfl
            first | rfl | go_simp | simp
          · -- 22: Op.move (Operand.tmp 5)
            intro l hl vs W hS hR hp
            obtain rfl : l = [] := hl.symm.trans (by kernel_rfl)
            clear hp hl
            refine opgoal (_) (some 43) rfl rfl fun K hK => ?_
            refine Runs.mk ?_
            simp only [putAll]
            go_simp
            refine hK _ _ ?_ hS ((fun w => Below.refl _ w) W) _ rfl rfl
            first | rfl | go_simp | simp
          · -- 23: Op.convert 3 131 (Operand.tmp 43)
            intro l hl vs W hS hR hp
            obtain rfl : l = [(22, 43)] := hl.symm.trans (by kernel_rfl)
            have p22 : vs 22 = _ := hp 22 (by decide) (by decide)
            clear hp hl
            refine opgoal (_) (some 44) rfl rfl fun K hK => ?_
            refine Runs.mk ?_
            simp only [putAll]
            go_simp
            refine hK _ _ ?_ hS ((fun w => Below.refl _ w) W) _ rfl rfl
            first | rfl | go_simp | simp
          · -- 24: Op.call { callee := Callee.value (Operand.func 87), args := #[Operand.tmp 44, Operand.const (Value.int IntKind.i64 1)], argTypes := #[131, 3] }
            intro l hl vs W hS hR hp
            obtain rfl : l = [(1, 22), (2, 23), (3, 24), (4, 25), (5, 26), (6, 27), (8, 29), (9, 30), (10, 31), (11, 32), (12, 33), (13, 34), (15, 36), (16, 37), (17, 38), (18, 39), (19, 40), (20, 41), (22, 43), (23, 44)] := hl.symm.trans (by kernel_rfl)
            have p23 : vs 23 = _ := hp 23 (by decide) (by decide)
            clear hp hl
            refine opgoal (_) (some 45) rfl rfl fun K hK => ?_
            refine Runs.mk ?_
            simp only [putAll]
            go_simp
            refine (big_any 0 1 (by omega) (by omega) W).mono ?_
            rintro e w' ⟨he, hb⟩
            rw [HYW.out] at he
            subst he
            go_simp
            exact hK _ _ rfl (below2 hS hb) hb _ rfl rfl
          · -- 25: Op.binOp BinOp.add 9 (Operand.tmp 42) (Operand.tmp 45) 9
            intro l hl vs W hS hR hp
            obtain rfl : l = [(0, 21), (1, 22), (2, 23), (3, 24), (4, 25), (5, 26), (6, 27), (7, 28), (8, 29), (9, 30), (10, 31), (11, 32), (12, 33), (13, 34), (14, 35), (15, 36), (16, 37), (17, 38), (18, 39), (19, 40), (20, 41), (21, 42), (22, 43), (23, 44), (24, 45)] := hl.symm.trans (by kernel_rfl)
            have p21 : vs 21 = _ := hp 21 (by decide) (by decide)
            have p24 : vs 24 = _ := hp 24 (by decide) (by decide)
            clear hp hl
            refine opgoal (_) (some 46) rfl rfl fun K hK => ?_
            refine Runs.mk ?_
            simp only [putAll]
            go_simp
            refine hK _ _ ?_ hS ((fun w => Below.refl _ w) W) _ rfl rfl
            first | rfl | go_simp | simp
          · -- 26: Op.move (Operand.tmp 0)
            intro l hl vs W hS hR hp
            obtain rfl : l = [] := hl.symm.trans (by kernel_rfl)
            clear hp hl
            refine opgoal (_) (some 47) rfl rfl fun K hK => ?_
            refine Runs.mk ?_
            simp only [putAll]
            go_simp
            refine hK _ _ ?_ hS ((fun w => Below.refl _ w) W) _ rfl rfl
            first | rfl | go_simp | simp
          · -- 27: Op.move (Operand.tmp 4)
            intro l hl vs W hS hR hp
            obtain rfl : l = [] := hl.symm.trans (by kernel_rfl)
            clear hp hl
            refine opgoal (_) (some 48) rfl rfl fun K hK => ?_
            refine Runs.mk ?_
            simp only [putAll]
            go_simp
            refine hK _ _ ?_ hS ((fun w => Below.refl _ w) W) _ rfl rfl
            first | rfl | go_simp | simp
          · -- 28: Op.indexAddr 54 (Operand.tmp 47) (Operand.tmp 48)
            intro l hl vs W hS hR hp
            obtain rfl : l = [(26, 47), (27, 48)] := hl.symm.trans (by kernel_rfl)
            have p26 : vs 26 = _ := hp 26 (by decide) (by decide)
            have p27 : vs 27 = _ := hp 27 (by decide) (by decide)
            clear hp hl
            refine opgoal (_) (some 49) rfl rfl fun K hK => ?_
            refine Runs.mk ?_
            simp only [putAll]
            go_simp
            refine hK _ _ ?_ hS ((fun w => Below.refl _ w) W) _ rfl rfl
            first | rfl | go_simp | simp
          · -- 29: Op.fieldAddr 86 (Operand.tmp 49) 4
            intro l hl vs W hS hR hp
            obtain rfl : l = [(26, 47), (27, 48), (28, 49)] := hl.symm.trans (by kernel_rfl)
            have p28 : vs 28 = _ := hp 28 (by decide) (by decide)
            clear hp hl
            refine opgoal (_) (some 50) rfl rfl fun K hK => ?_
            refine Runs.mk ?_
            simp only [putAll]
            go_simp
            refine hK _ _ ?_ hS ((fun w => Below.refl _ w) W) _ rfl rfl
            first | rfl | go_simp | simp
          · -- 30: Op.load 3 (Operand.tmp 50)
            intro l hl vs W hS hR hp
            obtain rfl : l = [(26, 47), (27, 48), (28, 49), (29, 50)] := hl.symm.trans (by kernel_rfl)
            have p29 : vs 29 = _ := hp 29 (by decide) (by decide)
            clear hp hl
            refine opgoal (_) (some 51) rfl rfl fun K hK => ?_
            have fc := cell_below hS C4.out
            refine Runs.mk ?_
            simp only [putAll]
            go_simp
            refine hK _ _ ?_ hS ((fun w => Below.refl _ w) W) _ rfl rfl
            first | rfl | go_simp | simp
          · -- 31: Op.call { callee := Callee.value (Operand.func 93), args := #[Operand.tmp 51], argTypes := #[3] }
            intro l hl vs W hS hR hp
            obtain rfl : l = [(1, 22), (2, 23), (3, 24), (4, 25), (5, 26), (6, 27), (8, 29), (9, 30), (10, 31), (11, 32), (12, 33), (13, 34), (15, 36), (16, 37), (17, 38), (18, 39), (19, 40), (20, 41), (22, 43), (23, 44), (24, 45), (26, 47), (27, 48), (28, 49), (29, 50), (30, 51)] := hl.symm.trans (by kernel_rfl)
            have p30 : vs 30 = _ := hp 30 (by decide) (by decide)
            clear hp hl
            refine opgoal (_) (some 52) rfl rfl fun K hK => ?_
            refine Runs.mk ?_
            simp only [putAll]
            go_simp
            refine (num_ref xn W yn hyn.out).mono ?_
            rintro e w' ⟨rfl, hb⟩
            go_simp
            exact hK _ _ rfl (below2 hS hb) hb _ rfl rfl
          · -- 32: Op.binOp BinOp.add 9 (Operand.tmp 46) (Operand.tmp 52) 9
            intro l hl vs W hS hR hp
            obtain rfl : l = [(0, 21), (1, 22), (2, 23), (3, 24), (4, 25), (5, 26), (6, 27), (7, 28), (8, 29), (9, 30), (10, 31), (11, 32), (12, 33), (13, 34), (14, 35), (15, 36), (16, 37), (17, 38), (18, 39), (19, 40), (20, 41), (21, 42), (22, 43), (23, 44), (24, 45), (25, 46), (26, 47), (27, 48), (28, 49), (29, 50), (30, 51), (31, 52)] := hl.symm.trans (by kernel_rfl)
            have p25 : vs 25 = _ := hp 25 (by decide) (by decide)
            have p31 : vs 31 = _ := hp 31 (by decide) (by decide)
            clear hp hl
            refine opgoal (_) (some 53) rfl rfl fun K hK => ?_
            refine Runs.mk ?_
            simp only [putAll]
            go_simp
            refine hK _ _ ?_ hS ((fun w => Below.refl _ w) W) _ rfl rfl
            first | rfl | go_simp | simp
          · -- 33: Op.assign (Operand.tmp 53)
            intro l hl vs W hS hR hp
            obtain rfl : l = [(0, 21), (1, 22), (2, 23), (3, 24), (4, 25), (5, 26), (6, 27), (7, 28), (8, 29), (9, 30), (10, 31), (11, 32), (12, 33), (13, 34), (14, 35), (15, 36), (16, 37), (17, 38), (18, 39), (19, 40), (20, 41), (21, 42), (22, 43), (23, 44), (24, 45), (25, 46), (26, 47), (27, 48), (28, 49), (29, 50), (30, 51), (31, 52), (32, 53)] := hl.symm.trans (by kernel_rfl)
            have p32 : vs 32 = _ := hp 32 (by decide) (by decide)
            clear hp hl
            refine opgoal (_) (some 3) rfl rfl fun K hK => ?_
            refine Runs.mk ?_
            simp only [putAll]
            go_simp
            refine hK _ _ ?_ hS ((fun w => Below.refl _ w) W) _ rfl rfl
            first | rfl | go_simp | simp
        · intro l hl vs W hS hR hp
          obtain rfl : l = [(0, 21), (1, 22), (2, 23), (3, 24), (4, 25), (5, 26), (6, 27), (7, 28), (8, 29), (9, 30), (10, 31), (11, 32), (12, 33), (13, 34), (14, 35), (15, 36), (16, 37), (17, 38), (18, 39), (19, 40), (20, 41), (21, 42), (22, 43), (23, 44), (24, 45), (25, 46), (26, 47), (27, 48), (28, 49), (29, 50), (30, 51), (31, 52), (32, 53), (33, 3)] := hl.symm.trans (by kernel_rfl)
          have p0 : vs 0 = _ := hp 0 (by decide) (by decide)
          have p1 : vs 1 = _ := hp 1 (by decide) (by decide)
          have p2 : vs 2 = _ := hp 2 (by decide) (by decide)
          have p3 : vs 3 = _ := hp 3 (by decide) (by decide)
          have p4 : vs 4 = _ := hp 4 (by decide) (by decide)
          have p5 : vs 5 = _ := hp 5 (by decide) (by decide)
          have p6 : vs 6 = _ := hp 6 (by decide) (by decide)
          have p7 : vs 7 = _ := hp 7 (by decide) (by decide)
          have p8 : vs 8 = _ := hp 8 (by decide) (by decide)
          have p9 : vs 9 = _ := hp 9 (by decide) (by decide)
          have p10 : vs 10 = _ := hp 10 (by decide) (by decide)
          have p11 : vs 11 = _ := hp 11 (by decide) (by decide)
          have p12 : vs 12 = _ := hp 12 (by decide) (by decide)
          have p13 : vs 13 = _ := hp 13 (by decide) (by decide)
          have p14 : vs 14 = _ := hp 14 (by decide) (by decide)
          have p15 : vs 15 = _ := hp 15 (by decide) (by decide)
          have p16 : vs 16 = _ := hp 16 (by decide) (by decide)
          have p17 : vs 17 = _ := hp 17 (by decide) (by decide)
          have p18 : vs 18 = _ := hp 18 (by decide) (by decide)
          have p19 : vs 19 = _ := hp 19 (by decide) (by decide)
          have p20 : vs 20 = _ := hp 20 (by decide) (by decide)
          have p21 : vs 21 = _ := hp 21 (by decide) (by decide)
          have p22 : vs 22 = _ := hp 22 (by decide) (by decide)
          have p23 : vs 23 = _ := hp 23 (by decide) (by decide)
          have p24 : vs 24 = _ := hp 24 (by decide) (by decide)
          have p25 : vs 25 = _ := hp 25 (by decide) (by decide)
          have p26 : vs 26 = _ := hp 26 (by decide) (by decide)
          have p27 : vs 27 = _ := hp 27 (by decide) (by decide)
          have p28 : vs 28 = _ := hp 28 (by decide) (by decide)
          have p29 : vs 29 = _ := hp 29 (by decide) (by decide)
          have p30 : vs 30 = _ := hp 30 (by decide) (by decide)
          have p31 : vs 31 = _ := hp 31 (by decide) (by decide)
          have p32 : vs 32 = _ := hp 32 (by decide) (by decide)
          have p33 : vs 33 = _ := hp 33 (by decide) (by decide)
          clear hp hl
          simp only [putAll_mk, setAll, List.setIfInBounds_toArray, List.set_cons_succ, List.set_cons_zero, p0, p1, p2, p3, p4, p5, p6, p7, p8, p9, p10, p11, p12, p13, p14, p15, p16, p17, p18, p19, p20, p21, p22, p23, p24, p25, p26, p27, p28, p29, p30, p31, p32, p33]
          have HS := Lib.hid (below2 hb.out hS)
          clear hS hR hS0
          go_wp2
          go_roundw
          case rel => exact ⟨k + 1, by omega, by rw [hnext.out], by go_num, HS.out⟩
          case measure => simp [intOf]; omega
      case true =>
        have HYW : Hid ((⟨(bigB 1 1).toArray⟩ : ByteArray) = yw) := Lib.hid hyw.out
        go_wp2_with fail
        refine wp_region_one (fun W => Below wr.heap.size wr W) (fun u v => Below u.heap.size u v) (fun a i => match i with
            | 0 => (fun v _ => v = .string y0)
            | 1 => (fun v _ => v = .slice (some ⟨ab, ao, none⟩) n c)
            | 2 => (fun v _ => v = .int .i64 (k : Nat))
            | 3 => (fun v _ => v = .pointer (some ⟨ab, ao + k * 5, none⟩))
            | 4 => (fun v _ => v = .pointer (some ⟨ab, ao + k * 5, none⟩))
            | 5 => (fun v _ => v = .int .i64 xc)
            | 6 => (fun v _ => v = .string yc)
            | 7 => (fun v _ => v = .string (y0 ++ yc))
            | 8 => (fun v _ => v = .slice (some ⟨ab, ao, none⟩) n c)
            | 9 => (fun v _ => v = .int .i64 (k : Nat))
            | 10 => (fun v _ => v = .pointer (some ⟨ab, ao + k * 5, none⟩))
            | 11 => (fun v _ => v = .pointer (some ⟨ab, ao + k * 5 + 1, none⟩))
            | 12 => (fun v _ => v = .int .i64 xv)
            | 13 => (fun v _ => v = .string yv)
            | 14 => (fun v _ => v = .string (y0 ++ yc ++ yv))
            | 15 => (fun v _ => v = .slice (some ⟨ab, ao, none⟩) n c)
            | 16 => (fun v _ => v = .int .i64 (k : Nat))
            | 17 => (fun v _ => v = .pointer (some ⟨ab, ao + k * 5, none⟩))
            | 18 => (fun v _ => v = .pointer (some ⟨ab, ao + k * 5 + 2, none⟩))
            | 19 => (fun v _ => v = .int .i64 xl)
            | 20 => (fun v _ => v = .string yl)
            | 21 => (fun v _ => v = .string (y0 ++ yc ++ yv ++ yl))
            | 22 => (fun v _ => v = .int .i64 1)
            | 23 => (fun v _ => v = .int .u64 1)
            | 24 => (fun v _ => v = .string yw)
            | 25 => (fun v _ => v = .string (y0 ++ yc ++ yv ++ yl ++ yw))
            | 26 => (fun v _ => v = .slice (some ⟨ab, ao, none⟩) n c)
            | 27 => (fun v _ => v = .int .i64 (k : Nat))
            | 28 => (fun v _ => v = .pointer (some ⟨ab, ao + k * 5, none⟩))
            | 29 => (fun v _ => v = .pointer (some ⟨ab, ao + k * 5 + 4, none⟩))
            | 30 => (fun v _ => v = .int .i64 xn)
            | 31 => (fun v _ => v = .string yn)
            | 32 => (fun v _ => v = .string (y0 ++ yc ++ yv ++ yl ++ yw ++ yn))
            | 33 => (fun v _ => v = .string (y0 ++ yc ++ yv ++ yl ++ yw ++ yn))
            | _ => (fun _ _ => True)) #[0, 0, 0, 6, 14, 30, 62, 127, 0, 0, 768, 1792, 3840, 8062, 16383, 0, 0, 98304, 229376, 491520, 1032062, 2097151, 0, 4194304, 14663550, 33554431, 0, 0, 201326592, 469762048, 1006632960, 2111815550, 4294967295, 8589934591] #[0, 0, 0, 6, 8, 16, 32, 65, 0, 0, 768, 1024, 2048, 4096, 8320, 0, 0, 98304, 131072, 262144, 524288, 1064960, 0, 4194304, 8388608, 18874368, 0, 0, 201326592, 268435456, 536870912, 1073741824, 2181038080, 4294967296] 17179869183 (by kernel_rfl) 34 rfl (fun m hm => by subst hm; kernel_rfl) (by kernel_rfl) (fun w => Below.refl _ w) (fun u v w h1 h2 => below2 h1 h2) ?_ (hS0) ?_ ?_
        · intro i hi
          rcases (by omega : i = 0 ∨ i = 1 ∨ i = 2 ∨ i = 3 ∨ i = 4 ∨ i = 5 ∨ i = 6 ∨ i = 7 ∨ i = 8 ∨ i = 9 ∨ i = 10 ∨ i = 11 ∨ i = 12 ∨ i = 13 ∨ i = 14 ∨ i = 15 ∨ i = 16 ∨ i = 17 ∨ i = 18 ∨ i = 19 ∨ i = 20 ∨ i = 21 ∨ i = 22 ∨ i = 23 ∨ i = 24 ∨ i = 25 ∨ i = 26 ∨ i = 27 ∨ i = 28 ∨ i = 29 ∨ i = 30 ∨ i = 31 ∨ i = 32 ∨ i = 33) with rfl | rfl | rfl | rfl | rfl | rfl | rfl | rfl | rfl | rfl | rfl | rfl | rfl | rfl | rfl | rfl | rfl | rfl | rfl | rfl | rfl | rfl | rfl | rfl | rfl | rfl | rfl | rfl | rfl | rfl | rfl | rfl | rfl | rfl
          · exact fun v w w' h hr => by exact h
          · exact fun v w w' h hr => by exact h
          · exact fun v w w' h hr => by exact h
          · exact fun v w w' h hr => by exact h
          · exact fun v w w' h hr => by exact h
          · exact fun v w w' h hr => by exact h
          · exact fun v w w' h hr => by exact h
          · exact fun v w w' h hr => by exact h
          · exact fun v w w' h hr => by exact h
          · exact fun v w w' h hr => by exact h
          · exact fun v w w' h hr => by exact h
          · exact fun v w w' h hr => by exact h
          · exact fun v w w' h hr => by exact h
          · exact fun v w w' h hr => by exact h
          · exact fun v w w' h hr => by exact h
          · exact fun v w w' h hr => by exact h
          · exact fun v w w' h hr => by exact h
          · exact fun v w w' h hr => by exact h
          · exact fun v w w' h hr => by exact h
          · exact fun v w w' h hr => by exact h
          · exact fun v w w' h hr => by exact h
          · exact fun v w w' h hr => by exact h
          · exact fun v w w' h hr => by exact h
          · exact fun v w w' h hr => by exact h
          · exact fun v w w' h hr => by exact h
          · exact fun v w w' h hr => by exact h
          · exact fun v w w' h hr => by exact h
          · exact fun v w w' h hr => by exact h
          · exact fun v w w' h hr => by exact h
          · exact fun v w w' h hr => by exact h
          · exact fun v w w' h hr => by exact h
          · exact fun v w w' h hr => by exact h
          · exact fun v w w' h hr => by exact h
          · exact fun v w w' h hr => by exact h
        · intro i hi
          rcases (by omega : i = 0 ∨ i = 1 ∨ i = 2 ∨ i = 3 ∨ i = 4 ∨ i = 5 ∨ i = 6 ∨ i = 7 ∨ i = 8 ∨ i = 9 ∨ i = 10 ∨ i = 11 ∨ i = 12 ∨ i = 13 ∨ i = 14 ∨ i = 15 ∨ i = 16 ∨ i = 17 ∨ i = 18 ∨ i = 19 ∨ i = 20 ∨ i = 21 ∨ i = 22 ∨ i = 23 ∨ i = 24 ∨ i = 25 ∨ i = 26 ∨ i = 27 ∨ i = 28 ∨ i = 29 ∨ i = 30 ∨ i = 31 ∨ i = 32 ∨ i = 33) with rfl | rfl | rfl | rfl | rfl | rfl | rfl | rfl | rfl | rfl | rfl | rfl | rfl | rfl | rfl | rfl | rfl | rfl | rfl | rfl | rfl | rfl | rfl | rfl | rfl | rfl | rfl | rfl | rfl | rfl | rfl | rfl | rfl | rfl
          · -- 0: Op.move (Operand.tmp 3)
            intro l hl vs W hS hR hp
            obtain rfl : l = [] := hl.symm.trans (by kernel_rfl)
            clear hp hl
            refine opgoal (_) (some 21) rfl rfl fun K hK => ?_
            refine Runs.mk ?_
            simp only [putAll]
            go_simp
            refine hK _ _ ?_ hS ((fun w => Below.refl _ w) W) _ rfl rfl
            first | rfl | go_simp | simp
          · -- 1: Op.move (Operand.tmp 0)
            intro l hl vs W hS hR hp
            obtain rfl : l = [] := hl.symm.trans (by kernel_rfl)
            clear hp hl
            refine opgoal (_) (some 22) rfl rfl fun K hK => ?_
            refine Runs.mk ?_
            simp only [putAll]
            go_simp
            refine hK _ _ ?_ hS ((fun w => Below.refl _ w) W) _ rfl rfl
            first | rfl | go_simp | simp
          · -- 2: Op.move (Operand.tmp 4)
            intro l hl vs W hS hR hp
            obtain rfl : l = [] := hl.symm.trans (by kernel_rfl)
            clear hp hl
            refine opgoal (_) (some 23) rfl rfl fun K hK => ?_
            refine Runs.mk ?_
            simp only [putAll]
            go_simp
            refine hK _ _ ?_ hS ((fun w => Below.refl _ w) W) _ rfl rfl
            first | rfl | go_simp | simp
          · -- 3: Op.indexAddr 54 (Operand.tmp 22) (Operand.tmp 23)
            intro l hl vs W hS hR hp
            obtain rfl : l = [(1, 22), (2, 23)] := hl.symm.trans (by kernel_rfl)
            have p1 : vs 1 = _ := hp 1 (by decide) (by decide)
            have p2 : vs 2 = _ := hp 2 (by decide) (by decide)
            clear hp hl
            refine opgoal (_) (some 24) rfl rfl fun K hK => ?_
            refine Runs.mk ?_
            simp only [putAll]
            go_simp
            refine hK _ _ ?_ hS ((fun w => Below.refl _ w) W) _ rfl rfl
            first | rfl | go_simp | simp
          · -- 4: Op.fieldAddr 86 (Operand.tmp 24) 0
            intro l hl vs W hS hR hp
            obtain rfl : l = [(1, 22), (2, 23), (3, 24)] := hl.symm.trans (by kernel_rfl)
            have p3 : vs 3 = _ := hp 3 (by decide) (by decide)
            clear hp hl
            refine opgoal (_) (some 25) rfl rfl fun K hK => ?_
            refine Runs.mk ?_
            simp only [putAll]
            go_simp
            refine hK _ _ ?_ hS ((fun w => Below.refl _ w) W) _ rfl rfl
            first | rfl | go_simp | simp
          · -- 5: Op.load 3 (Operand.tmp 25)
            intro l hl vs W hS hR hp
            obtain rfl : l = [(1, 22), (2, 23), (3, 24), (4, 25)] := hl.symm.trans (by kernel_rfl)
            have p4 : vs 4 = _ := hp 4 (by decide) (by decide)
            clear hp hl
            refine opgoal (_) (some 26) rfl rfl fun K hK => ?_
            have fc := cell_below hS C0.out
            refine Runs.mk ?_
            simp only [putAll]
            go_simp
            refine hK _ _ ?_ hS ((fun w => Below.refl _ w) W) _ rfl rfl
            first | rfl | go_simp | simp
          · -- 6: Op.call { callee := Callee.value (Operand.func 93), args := #[Operand.tmp 26], argTypes := #[3] }
            intro l hl vs W hS hR hp
            obtain rfl : l = [(1, 22), (2, 23), (3, 24), (4, 25), (5, 26)] := hl.symm.trans (by kernel_rfl)
            have p5 : vs 5 = _ := hp 5 (by decide) (by decide)
            clear hp hl
            refine opgoal (_) (some 27) rfl rfl fun K hK => ?_
            refine Runs.mk ?_
            simp only [putAll]
            go_simp
            refine (num_ref xc W yc hyc.out).mono ?_
            rintro e w' ⟨rfl, hb⟩
            go_simp
            exact hK _ _ rfl (below2 hS hb) hb _ rfl rfl
          · -- 7: Op.binOp BinOp.add 9 (Operand.tmp 21) (Operand.tmp 27) 9
            intro l hl vs W hS hR hp
            obtain rfl : l = [(0, 21), (1, 22), (2, 23), (3, 24), (4, 25), (5, 26), (6, 27)] := hl.symm.trans (by kernel_rfl)
            have p0 : vs 0 = _ := hp 0 (by decide) (by decide)
            have p6 : vs 6 = _ := hp 6 (by decide) (by decide)
            clear hp hl
            refine opgoal (_) (some 28) rfl rfl fun K hK => ?_
            refine Runs.mk ?_
            simp only [putAll]
            go_simp
            refine hK _ _ ?_ hS ((fun w => Below.refl _ w) W) _ rfl rfl
            first | rfl | go_simp | simp
          · -- 8: Op.move (Operand.tmp 0)
            intro l hl vs W hS hR hp
            obtain rfl : l = [] := hl.symm.trans (by kernel_rfl)
            clear hp hl
            refine opgoal (_) (some 29) rfl rfl fun K hK => ?_
            refine Runs.mk ?_
            simp only [putAll]
            go_simp
            refine hK _ _ ?_ hS ((fun w => Below.refl _ w) W) _ rfl rfl
            first | rfl | go_simp | simp
          · -- 9: Op.move (Operand.tmp 4)
            intro l hl vs W hS hR hp
            obtain rfl : l = [] := hl.symm.trans (by kernel_rfl)
            clear hp hl
            refine opgoal (_) (some 30) rfl rfl fun K hK => ?_
            refine Runs.mk ?_
            simp only [putAll]
            go_simp
            refine hK _ _ ?_ hS ((fun w => Below.refl _ w) W) _ rfl rfl
            first | rfl | go_simp | simp
          · -- 10: Op.indexAddr 54 (Operand.tmp 29) (Operand.tmp 30)
            intro l hl vs W hS hR hp
            obtain rfl : l = [(8, 29), (9, 30)] := hl.symm.trans (by kernel_rfl)
            have p8 : vs 8 = _ := hp 8 (by decide) (by decide)
            have p9 : vs 9 = _ := hp 9 (by decide) (by decide)
            clear hp hl
            refine opgoal (_) (some 31) rfl rfl fun K hK => ?_
            refine Runs.mk ?_
            simp only [putAll]
            go_simp
            refine hK _ _ ?_ hS ((fun w => Below.refl _ w) W) _ rfl rfl
            first | rfl | go_simp | simp
          · -- 11: Op.fieldAddr 86 (Operand.tmp 31) 1
            intro l hl vs W hS hR hp
            obtain rfl : l = [(8, 29), (9, 30), (10, 31)] := hl.symm.trans (by kernel_rfl)
            have p10 : vs 10 = _ := hp 10 (by decide) (by decide)
            clear hp hl
            refine opgoal (_) (some 32) rfl rfl fun K hK => ?_
            refine Runs.mk ?_
            simp only [putAll]
            go_simp
            refine hK _ _ ?_ hS ((fun w => Below.refl _ w) W) _ rfl rfl
            first | rfl | go_simp | simp
          · -- 12: Op.load 3 (Operand.tmp 32)
            intro l hl vs W hS hR hp
            obtain rfl : l = [(8, 29), (9, 30), (10, 31), (11, 32)] := hl.symm.trans (by kernel_rfl)
            have p11 : vs 11 = _ := hp 11 (by decide) (by decide)
            clear hp hl
            refine opgoal (_) (some 33) rfl rfl fun K hK => ?_
            have fc := cell_below hS C1.out
            refine Runs.mk ?_
            simp only [putAll]
            go_simp
            refine hK _ _ ?_ hS ((fun w => Below.refl _ w) W) _ rfl rfl
            first | rfl | go_simp | simp
          · -- 13: Op.call { callee := Callee.value (Operand.func 93), args := #[Operand.tmp 33], argTypes := #[3] }
            intro l hl vs W hS hR hp
            obtain rfl : l = [(1, 22), (2, 23), (3, 24), (4, 25), (5, 26), (6, 27), (8, 29), (9, 30), (10, 31), (11, 32), (12, 33)] := hl.symm.trans (by kernel_rfl)
            have p12 : vs 12 = _ := hp 12 (by decide) (by decide)
            clear hp hl
            refine opgoal (_) (some 34) rfl rfl fun K hK => ?_
            refine Runs.mk ?_
            simp only [putAll]
            go_simp
            refine (num_ref xv W yv hyv.out).mono ?_
            rintro e w' ⟨rfl, hb⟩
            go_simp
            exact hK _ _ rfl (below2 hS hb) hb _ rfl rfl
          · -- 14: Op.binOp BinOp.add 9 (Operand.tmp 28) (Operand.tmp 34) 9
            intro l hl vs W hS hR hp
            obtain rfl : l = [(0, 21), (1, 22), (2, 23), (3, 24), (4, 25), (5, 26), (6, 27), (7, 28), (8, 29), (9, 30), (10, 31), (11, 32), (12, 33), (13, 34)] := hl.symm.trans (by kernel_rfl)
            have p7 : vs 7 = _ := hp 7 (by decide) (by decide)
            have p13 : vs 13 = _ := hp 13 (by decide) (by decide)
            clear hp hl
            refine opgoal (_) (some 35) rfl rfl fun K hK => ?_
            refine Runs.mk ?_
            simp only [putAll]
            go_simp
            refine hK _ _ ?_ hS ((fun w => Below.refl _ w) W) _ rfl rfl
            first | rfl | go_simp | simp
          · -- 15: Op.move (Operand.tmp 0)
            intro l hl vs W hS hR hp
            obtain rfl : l = [] := hl.symm.trans (by kernel_rfl)
            clear hp hl
            refine opgoal (_) (some 36) rfl rfl fun K hK => ?_
            refine Runs.mk ?_
            simp only [putAll]
            go_simp
            refine hK _ _ ?_ hS ((fun w => Below.refl _ w) W) _ rfl rfl
            first | rfl | go_simp | simp
          · -- 16: Op.move (Operand.tmp 4)
            intro l hl vs W hS hR hp
            obtain rfl : l = [] := hl.symm.trans (by kernel_rfl)
            clear hp hl
            refine opgoal (_) (some 37) rfl rfl fun K hK => ?_
            refine Runs.mk ?_
            simp only [putAll]
            go_simp
            refine hK _ _ ?_ hS ((fun w => Below.refl _ w) W) _ rfl rfl
            first | rfl | go_simp | simp
          · -- 17: Op.indexAddr 54 (Operand.tmp 36) (Operand.tmp 37)
            intro l hl vs W hS hR hp
            obtain rfl : l = [(15, 36), (16, 37)] := hl.symm.trans (by kernel_rfl)
            have p15 : vs 15 = _ := hp 15 (by decide) (by decide)
            have p16 : vs 16 = _ := hp 16 (by decide) (by decide)
            clear hp hl
            refine opgoal (_) (some 38) rfl rfl fun K hK => ?_
            refine Runs.mk ?_
            simp only [putAll]
            go_simp
            refine hK _ _ ?_ hS ((fun w => Below.refl _ w) W) _ rfl rfl
            first | rfl | go_simp | simp
          · -- 18: Op.fieldAddr 86 (Operand.tmp 38) 2
            intro l hl vs W hS hR hp
            obtain rfl : l = [(15, 36), (16, 37), (17, 38)] := hl.symm.trans (by kernel_rfl)
            have p17 : vs 17 = _ := hp 17 (by decide) (by decide)
            clear hp hl
            refine opgoal (_) (some 39) rfl rfl fun K hK => ?_
            refine Runs.mk ?_
            simp only [putAll]
            go_simp
            refine hK _ _ ?_ hS ((fun w => Below.refl _ w) W) _ rfl rfl
            first | rfl | go_simp | simp
          · -- 19: Op.load 3 (Operand.tmp 39)
            intro l hl vs W hS hR hp
            obtain rfl : l = [(15, 36), (16, 37), (17, 38), (18, 39)] := hl.symm.trans (by kernel_rfl)
            have p18 : vs 18 = _ := hp 18 (by decide) (by decide)
            clear hp hl
            refine opgoal (_) (some 40) rfl rfl fun K hK => ?_
            have fc := cell_below hS C2.out
            refine Runs.mk ?_
            simp only [putAll]
            go_simp
            refine hK _ _ ?_ hS ((fun w => Below.refl _ w) W) _ rfl rfl
            first | rfl | go_simp | simp
          · -- 20: Op.call { callee := Callee.value (Operand.func 93), args := #[Operand.tmp 40], argTypes := #[3] }
            intro l hl vs W hS hR hp
            obtain rfl : l = [(1, 22), (2, 23), (3, 24), (4, 25), (5, 26), (6, 27), (8, 29), (9, 30), (10, 31), (11, 32), (12, 33), (13, 34), (15, 36), (16, 37), (17, 38), (18, 39), (19, 40)] := hl.symm.trans (by kernel_rfl)
            have p19 : vs 19 = _ := hp 19 (by decide) (by decide)
            clear hp hl
            refine opgoal (_) (some 41) rfl rfl fun K hK => ?_
            refine Runs.mk ?_
            simp only [putAll]
            go_simp
            refine (num_ref xl W yl hyl.out).mono ?_
            rintro e w' ⟨rfl, hb⟩
            go_simp
            exact hK _ _ rfl (below2 hS hb) hb _ rfl rfl
          · -- 21: Op.binOp BinOp.add 9 (Operand.tmp 35) (Operand.tmp 41) 9
            intro l hl vs W hS hR hp
            obtain rfl : l = [(0, 21), (1, 22), (2, 23), (3, 24), (4, 25), (5, 26), (6, 27), (7, 28), (8, 29), (9, 30), (10, 31), (11, 32), (12, 33), (13, 34), (14, 35), (15, 36), (16, 37), (17, 38), (18, 39), (19, 40), (20, 41)] := hl.symm.trans (by kernel_rfl)
            have p14 : vs 14 = _ := hp 14 (by decide) (by decide)
            have p20 : vs 20 = _ := hp 20 (by decide) (by decide)
            clear hp hl
            refine opgoal (_) (some 42) rfl rfl fun K hK => ?_
            refine Runs.mk ?_
            simp only [putAll]
            go_simp
            refine hK _ _ ?_ hS ((fun w => Below.refl _ w) W) _ rfl rfl
            first | rfl | go_simp | simp
          · -- 22: Op.move (Operand.tmp 5)
            intro l hl vs W hS hR hp
            obtain rfl : l = [] := hl.symm.trans (by kernel_rfl)
            clear hp hl
            refine opgoal (_) (some 43) rfl rfl fun K hK => ?_
            refine Runs.mk ?_
            simp only [putAll]
            go_simp
            refine hK _ _ ?_ hS ((fun w => Below.refl _ w) W) _ rfl rfl
            first | rfl | go_simp | simp
          · -- 23: Op.convert 3 131 (Operand.tmp 43)
            intro l hl vs W hS hR hp
            obtain rfl : l = [(22, 43)] := hl.symm.trans (by kernel_rfl)
            have p22 : vs 22 = _ := hp 22 (by decide) (by decide)
            clear hp hl
            refine opgoal (_) (some 44) rfl rfl fun K hK => ?_
            refine Runs.mk ?_
            simp only [putAll]
            go_simp
            refine hK _ _ ?_ hS ((fun w => Below.refl _ w) W) _ rfl rfl
            first | rfl | go_simp | simp
          · -- 24: Op.call { callee := Callee.value (Operand.func 87), args := #[Operand.tmp 44, Operand.const (Value.int IntKind.i64 1)], argTypes := #[131, 3] }
            intro l hl vs W hS hR hp
            obtain rfl : l = [(1, 22), (2, 23), (3, 24), (4, 25), (5, 26), (6, 27), (8, 29), (9, 30), (10, 31), (11, 32), (12, 33), (13, 34), (15, 36), (16, 37), (17, 38), (18, 39), (19, 40), (20, 41), (22, 43), (23, 44)] := hl.symm.trans (by kernel_rfl)
            have p23 : vs 23 = _ := hp 23 (by decide) (by decide)
            clear hp hl
            refine opgoal (_) (some 45) rfl rfl fun K hK => ?_
            refine Runs.mk ?_
            simp only [putAll]
            go_simp
            refine (big_any 1 1 (by omega) (by omega) W).mono ?_
            rintro e w' ⟨he, hb⟩
            rw [HYW.out] at he
            subst he
            go_simp
            exact hK _ _ rfl (below2 hS hb) hb _ rfl rfl
          · -- 25: Op.binOp BinOp.add 9 (Operand.tmp 42) (Operand.tmp 45) 9
            intro l hl vs W hS hR hp
            obtain rfl : l = [(0, 21), (1, 22), (2, 23), (3, 24), (4, 25), (5, 26), (6, 27), (7, 28), (8, 29), (9, 30), (10, 31), (11, 32), (12, 33), (13, 34), (14, 35), (15, 36), (16, 37), (17, 38), (18, 39), (19, 40), (20, 41), (21, 42), (22, 43), (23, 44), (24, 45)] := hl.symm.trans (by kernel_rfl)
            have p21 : vs 21 = _ := hp 21 (by decide) (by decide)
            have p24 : vs 24 = _ := hp 24 (by decide) (by decide)
            clear hp hl
            refine opgoal (_) (some 46) rfl rfl fun K hK => ?_
            refine Runs.mk ?_
            simp only [putAll]
            go_simp
            refine hK _ _ ?_ hS ((fun w => Below.refl _ w) W) _ rfl rfl
            first | rfl | go_simp | simp
          · -- 26: Op.move (Operand.tmp 0)
            intro l hl vs W hS hR hp
            obtain rfl : l = [] := hl.symm.trans (by kernel_rfl)
            clear hp hl
            refine opgoal (_) (some 47) rfl rfl fun K hK => ?_
            refine Runs.mk ?_
            simp only [putAll]
            go_simp
            refine hK _ _ ?_ hS ((fun w => Below.refl _ w) W) _ rfl rfl
            first | rfl | go_simp | simp
          · -- 27: Op.move (Operand.tmp 4)
            intro l hl vs W hS hR hp
            obtain rfl : l = [] := hl.symm.trans (by kernel_rfl)
            clear hp hl
            refine opgoal (_) (some 48) rfl rfl fun K hK => ?_
            refine Runs.mk ?_
            simp only [putAll]
            go_simp
            refine hK _ _ ?_ hS ((fun w => Below.refl _ w) W) _ rfl rfl
            first | rfl | go_simp | simp
          · -- 28: Op.indexAddr 54 (Operand.tmp 47) (Operand.tmp 48)
            intro l hl vs W hS hR hp
            obtain rfl : l = [(26, 47), (27, 48)] := hl.symm.trans (by kernel_rfl)
            have p26 : vs 26 = _ := hp 26 (by decide) (by decide)
            have p27 : vs 27 = _ := hp 27 (by decide) (by decide)
            clear hp hl
            refine opgoal (_) (some 49) rfl rfl fun K hK => ?_
            refine Runs.mk ?_
            simp only [putAll]
            go_simp
            refine hK _ _ ?_ hS ((fun w => Below.refl _ w) W) _ rfl rfl
            first | rfl | go_simp | simp
          · -- 29: Op.fieldAddr 86 (Operand.tmp 49) 4
            intro l hl vs W hS hR hp
            obtain rfl : l = [(26, 47), (27, 48), (28, 49)] := hl.symm.trans (by kernel_rfl)
            have p28 : vs 28 = _ := hp 28 (by decide) (by decide)
            clear hp hl
            refine opgoal (_) (some 50) rfl rfl fun K hK => ?_
            refine Runs.mk ?_
            simp only [putAll]
            go_simp
            refine hK _ _ ?_ hS ((fun w => Below.refl _ w) W) _ rfl rfl
            first | rfl | go_simp | simp
          · -- 30: Op.load 3 (Operand.tmp 50)
            intro l hl vs W hS hR hp
            obtain rfl : l = [(26, 47), (27, 48), (28, 49), (29, 50)] := hl.symm.trans (by kernel_rfl)
            have p29 : vs 29 = _ := hp 29 (by decide) (by decide)
            clear hp hl
            refine opgoal (_) (some 51) rfl rfl fun K hK => ?_
            have fc := cell_below hS C4.out
            refine Runs.mk ?_
            simp only [putAll]
            go_simp
            refine hK _ _ ?_ hS ((fun w => Below.refl _ w) W) _ rfl rfl
            first | rfl | go_simp | simp
          · -- 31: Op.call { callee := Callee.value (Operand.func 93), args := #[Operand.tmp 51], argTypes := #[3] }
            intro l hl vs W hS hR hp
            obtain rfl : l = [(1, 22), (2, 23), (3, 24), (4, 25), (5, 26), (6, 27), (8, 29), (9, 30), (10, 31), (11, 32), (12, 33), (13, 34), (15, 36), (16, 37), (17, 38), (18, 39), (19, 40), (20, 41), (22, 43), (23, 44), (24, 45), (26, 47), (27, 48), (28, 49), (29, 50), (30, 51)] := hl.symm.trans (by kernel_rfl)
            have p30 : vs 30 = _ := hp 30 (by decide) (by decide)
            clear hp hl
            refine opgoal (_) (some 52) rfl rfl fun K hK => ?_
            refine Runs.mk ?_
            simp only [putAll]
            go_simp
            refine (num_ref xn W yn hyn.out).mono ?_
            rintro e w' ⟨rfl, hb⟩
            go_simp
            exact hK _ _ rfl (below2 hS hb) hb _ rfl rfl
          · -- 32: Op.binOp BinOp.add 9 (Operand.tmp 46) (Operand.tmp 52) 9
            intro l hl vs W hS hR hp
            obtain rfl : l = [(0, 21), (1, 22), (2, 23), (3, 24), (4, 25), (5, 26), (6, 27), (7, 28), (8, 29), (9, 30), (10, 31), (11, 32), (12, 33), (13, 34), (14, 35), (15, 36), (16, 37), (17, 38), (18, 39), (19, 40), (20, 41), (21, 42), (22, 43), (23, 44), (24, 45), (25, 46), (26, 47), (27, 48), (28, 49), (29, 50), (30, 51), (31, 52)] := hl.symm.trans (by kernel_rfl)
            have p25 : vs 25 = _ := hp 25 (by decide) (by decide)
            have p31 : vs 31 = _ := hp 31 (by decide) (by decide)
            clear hp hl
            refine opgoal (_) (some 53) rfl rfl fun K hK => ?_
            refine Runs.mk ?_
            simp only [putAll]
            go_simp
            refine hK _ _ ?_ hS ((fun w => Below.refl _ w) W) _ rfl rfl
            first | rfl | go_simp | simp
          · -- 33: Op.assign (Operand.tmp 53)
            intro l hl vs W hS hR hp
            obtain rfl : l = [(0, 21), (1, 22), (2, 23), (3, 24), (4, 25), (5, 26), (6, 27), (7, 28), (8, 29), (9, 30), (10, 31), (11, 32), (12, 33), (13, 34), (14, 35), (15, 36), (16, 37), (17, 38), (18, 39), (19, 40), (20, 41), (21, 42), (22, 43), (23, 44), (24, 45), (25, 46), (26, 47), (27, 48), (28, 49), (29, 50), (30, 51), (31, 52), (32, 53)] := hl.symm.trans (by kernel_rfl)
            have p32 : vs 32 = _ := hp 32 (by decide) (by decide)
            clear hp hl
            refine opgoal (_) (some 3) rfl rfl fun K hK => ?_
            refine Runs.mk ?_
            simp only [putAll]
            go_simp
            refine hK _ _ ?_ hS ((fun w => Below.refl _ w) W) _ rfl rfl
            first | rfl | go_simp | simp
        · intro l hl vs W hS hR hp
          obtain rfl : l = [(0, 21), (1, 22), (2, 23), (3, 24), (4, 25), (5, 26), (6, 27), (7, 28), (8, 29), (9, 30), (10, 31), (11, 32), (12, 33), (13, 34), (14, 35), (15, 36), (16, 37), (17, 38), (18, 39), (19, 40), (20, 41), (21, 42), (22, 43), (23, 44), (24, 45), (25, 46), (26, 47), (27, 48), (28, 49), (29, 50), (30, 51), (31, 52), (32, 53), (33, 3)] := hl.symm.trans (by kernel_rfl)
          have p0 : vs 0 = _ := hp 0 (by decide) (by decide)
          have p1 : vs 1 = _ := hp 1 (by decide) (by decide)
          have p2 : vs 2 = _ := hp 2 (by decide) (by decide)
          have p3 : vs 3 = _ := hp 3 (by decide) (by decide)
          have p4 : vs 4 = _ := hp 4 (by decide) (by decide)
          have p5 : vs 5 = _ := hp 5 (by decide) (by decide)
          have p6 : vs 6 = _ := hp 6 (by decide) (by decide)
          have p7 : vs 7 = _ := hp 7 (by decide) (by decide)
          have p8 : vs 8 = _ := hp 8 (by decide) (by decide)
          have p9 : vs 9 = _ := hp 9 (by decide) (by decide)
          have p10 : vs 10 = _ := hp 10 (by decide) (by decide)
          have p11 : vs 11 = _ := hp 11 (by decide) (by decide)
          have p12 : vs 12 = _ := hp 12 (by decide) (by decide)
          have p13 : vs 13 = _ := hp 13 (by decide) (by decide)
          have p14 : vs 14 = _ := hp 14 (by decide) (by decide)
          have p15 : vs 15 = _ := hp 15 (by decide) (by decide)
          have p16 : vs 16 = _ := hp 16 (by decide) (by decide)
          have p17 : vs 17 = _ := hp 17 (by decide) (by decide)
          have p18 : vs 18 = _ := hp 18 (by decide) (by decide)
          have p19 : vs 19 = _ := hp 19 (by decide) (by decide)
          have p20 : vs 20 = _ := hp 20 (by decide) (by decide)
          have p21 : vs 21 = _ := hp 21 (by decide) (by decide)
          have p22 : vs 22 = _ := hp 22 (by decide) (by decide)
          have p23 : vs 23 = _ := hp 23 (by decide) (by decide)
          have p24 : vs 24 = _ := hp 24 (by decide) (by decide)
          have p25 : vs 25 = _ := hp 25 (by decide) (by decide)
          have p26 : vs 26 = _ := hp 26 (by decide) (by decide)
          have p27 : vs 27 = _ := hp 27 (by decide) (by decide)
          have p28 : vs 28 = _ := hp 28 (by decide) (by decide)
          have p29 : vs 29 = _ := hp 29 (by decide) (by decide)
          have p30 : vs 30 = _ := hp 30 (by decide) (by decide)
          have p31 : vs 31 = _ := hp 31 (by decide) (by decide)
          have p32 : vs 32 = _ := hp 32 (by decide) (by decide)
          have p33 : vs 33 = _ := hp 33 (by decide) (by decide)
          clear hp hl
          simp only [putAll_mk, setAll, List.setIfInBounds_toArray, List.set_cons_succ, List.set_cons_zero, p0, p1, p2, p3, p4, p5, p6, p7, p8, p9, p10, p11, p12, p13, p14, p15, p16, p17, p18, p19, p20, p21, p22, p23, p24, p25, p26, p27, p28, p29, p30, p31, p32, p33]
          have HS := Lib.hid (below2 hb.out hS)
          clear hS hR hS0
          go_wp2
          go_roundw
          case rel => exact ⟨k + 1, by omega, by rw [hnext.out], by go_num, HS.out⟩
          case measure => simp [intOf]; omega
    · have hkn : n = k := by omega
      have hres : Hid (str (bigB n 2 ++ itemsB (l.take k)) = str (bigB n 2 ++ itemsB l)) := Lib.hid (by rw [List.take_of_length_le (by have := HN.out; omega)])
      rw [hres.out]
      clear hb0
      go_wp2
      go_ret
      exact ⟨rfl, hb.out⟩
end Go.Proofs.Ytfpocddpnoighaa.It

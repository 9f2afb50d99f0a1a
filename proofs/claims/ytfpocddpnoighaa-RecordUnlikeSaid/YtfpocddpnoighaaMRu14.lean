/- item: the document's bytes; are lists alike? -/
import Derived.Test.YtfpocddpnoighaaMRu12
import Derived.Test.YtfpocddpnoighaaMRu13
namespace Go.Proofs.Ytfpocddpnoighaa.It
open Go.RowKit Go.Proofs.Ytfpocddpnoighaa.L Go.Proofs.Ytfpocddpnoighaa.O Go.Proofs.Ytfpocddpnoighaa.A Go.Proofs.Ytfpocddpnoighaa.R Go.Proofs.Ytfpocddpnoighaa.S Go.Proofs.Ytfpocddpnoighaa.T Go.Proofs.Ytfpocddpnoighaa.E Go.Proofs.Ytfpocddpnoighaa.Wr Go.Proofs.Ytfpocddpnoighaa.F
set_option linter.unusedVariables false
set_option linter.unusedSimpArgs false

def str (l : List UInt8) : ByteArray := ⟨l.toArray⟩
theorem str_cat (a b : List UInt8) : str a ++ str b = str (a ++ b) := by
  apply ByteArray.ext
  simp [str]
theorem str_size (a : List UInt8) : (str a).size = a.length := by simp [str, ByteArray.size]
theorem u64_max (n : Int) : u64 n < 18446744073709551616 := by unfold u64; omega
set_option maxHeartbeats 1000000 in
theorem num_ref (n : Int) (w : World) (y : ByteArray) (hy : str (bigB (u64 n) 8) = y) : Calls Try.prog 93 #[.int .i64 n] w fun e w' => e = .returned (.string y) ∧ Below w.heap.size w w' := by
  have hw := u64_wrap n
  have hm := u64_max n
  obtain ⟨m, hmm⟩ : ∃ m, Hid (u64 n = m) := ⟨_, Lib.hid rfl⟩
  rw [hmm.out] at hw hm hy
  have HY := Lib.hid hy
  have HM := Lib.hid hm
  clear hy hm
  go_enter Try.func93, Try.ntmps93
  go_wp2_with fail
  refine (big_any m 8 HM.out (by omega) w).mono ?_
  rintro e w1 ⟨rfl, hb1⟩
  go_wp2
  go_ret
  exact ⟨retv (congrArg Value.string HY.out), hb1⟩
theorem no_big {a b : Nat} (h : a + b ≤ 9223372036854775807) : ¬ 9223372036854775807 < a + b := by omega
set_option maxHeartbeats 4000000 in
set_option maxRecDepth 100000 in
theorem tid_ref (t1 t2 t3 : Int) (w : World) : Calls Try.prog 43 #[.agg #[.int .i64 t1, .int .i64 t2, .int .i64 t3]] w fun e w' => e = .returned (.string (str (numsB [t1, t2, t3]))) ∧ Below w.heap.size w w' := by
  obtain ⟨ya, hya⟩ : ∃ y, Hid (str (bigB (u64 t1) 8) = y) := ⟨_, Lib.hid rfl⟩
  obtain ⟨yb, hyb⟩ : ∃ y, Hid (str (bigB (u64 t2) 8) = y) := ⟨_, Lib.hid rfl⟩
  obtain ⟨yc, hyc⟩ : ∃ y, Hid (str (bigB (u64 t3) 8) = y) := ⟨_, Lib.hid rfl⟩
  have hres : Hid (ya ++ yb ++ yc = str (numsB [t1, t2, t3])) := Lib.hid (by rw [← hya.out, ← hyb.out, ← hyc.out, str_cat, str_cat]; simp [numsB])
  have z1 : ¬ 9223372036854775807 < ya.size + yb.size := by rw [← hya.out, ← hyb.out, str_size, str_size, len_big, len_big]; omega
  have z2 : ¬ 9223372036854775807 < ya.size + yb.size + yc.size := by rw [← hya.out, ← hyb.out, ← hyc.out, str_size, str_size, str_size, len_big, len_big, len_big]; omega
  obtain ⟨g, hg⟩ : ∃ g, Hid (w.heap.size = g) := ⟨_, Lib.hid rfl⟩
  obtain ⟨W0, hW0⟩ : ∃ W0, Hid (w.alloc (.cells #[.int .i64 t1, .int .i64 t2, .int .i64 t3] 51) = W0) := ⟨_, Lib.hid rfl⟩
  have hb0 : Hid (Below w.heap.size w W0) := Lib.hid (by rw [← hW0.out]; exact below_alloc _ _)
  have hA : Hid (W0.heap[g]? = some (.cells #[.int .i64 t1, .int .i64 t2, .int .i64 t3] 51 (0, 0))) := Lib.hid (by rw [← hW0.out, ← hg.out]; exact heap_alloc_new _ _)
  have hS0 : Below W0.heap.size W0 W0.drew := below_drew (Below.refl _ _)
  go_enter Try.func43, Try.ntmps43
  go_wp2_with fail
  rw [hW0.out, hg.out]
  refine wp_region_one (fun W => Below W0.heap.size W0 W) (fun u v => Below u.heap.size u v) (fun a i => match i with
      | 0 => (fun v _ => v = .pointer (some ⟨g, 0, none⟩))
      | 1 => (fun v _ => v = .int .i64 t1)
      | 2 => (fun v _ => v = .string ya)
      | 3 => (fun v _ => v = .pointer (some ⟨g, 1, none⟩))
      | 4 => (fun v _ => v = .int .i64 t2)
      | 5 => (fun v _ => v = .string yb)
      | 6 => (fun v _ => v = .string (ya ++ yb))
      | 7 => (fun v _ => v = .pointer (some ⟨g, 2, none⟩))
      | 8 => (fun v _ => v = .int .i64 t3)
      | 9 => (fun v _ => v = .string yc)
      | 10 => (fun v _ => v = .string (ya ++ yb ++ yc))
      | 11 => (fun v _ => v = .string (ya ++ yb ++ yc))
      | _ => (fun _ _ => True)) #[0, 1, 3, 0, 8, 31, 63, 0, 128, 447, 1023, 2047] #[0, 1, 2, 0, 8, 16, 36, 0, 128, 256, 576, 1024] 4095 (by kernel_rfl) 12 rfl (fun m hm => by subst hm; kernel_rfl) (by kernel_rfl) (fun w => Below.refl _ w) (fun u v w h1 h2 => below2 h1 h2) ?_ (hS0) ?_ ?_
  · intro i hi
    rcases (by omega : i = 0 ∨ i = 1 ∨ i = 2 ∨ i = 3 ∨ i = 4 ∨ i = 5 ∨ i = 6 ∨ i = 7 ∨ i = 8 ∨ i = 9 ∨ i = 10 ∨ i = 11) with rfl | rfl | rfl | rfl | rfl | rfl | rfl | rfl | rfl | rfl | rfl | rfl
    · exact fun v w w' h hr => by exact h
    · exact fun v w w' h hr => by exact h
    · exact fun v w w' h hr => by exact h
    · exact fun v w w' h hr => by exact h
    · exact fun v w w' h hr => by exact h
    · exact fun v w w' h hr => by exact h
    · exact fun v w w' h hr => by exact h
    · exact fun v w w' h hr => by exact h
    · exact fun v w w' h hr => by exact h
    · exact fun v w w' h hr => by exact h
    · exact fun v w w' h hr => by exact h
    · exact fun v w w' h hr => by exact h
  · intro i hi
    rcases (by omega : i = 0 ∨ i = 1 ∨ i = 2 ∨ i = 3 ∨ i = 4 ∨ i = 5 ∨ i = 6 ∨ i = 7 ∨ i = 8 ∨ i = 9 ∨ i = 10 ∨ i = 11) with rfl | rfl | rfl | rfl | rfl | rfl | rfl | rfl | rfl | rfl | rfl | rfl
    · -- 0: Op.fieldAddr 51 (Operand.tmp 1) 0
      intro l hl vs W hS hR hp
      obtain rfl : l = [] := hl.symm.trans (by kernel_rfl)
      clear hp hl
      refine opgoal (_) (some 3) rfl rfl fun K hK => ?_
      refine Runs.mk ?_
      simp only [putAll]
      go_simp
      refine hK _ _ ?_ hS ((fun w => Below.refl _ w) W) _ rfl rfl
      first | rfl | go_simp | simp
    · -- 1: Op.load 3 (Operand.tmp 3)
      intro l hl vs W hS hR hp
      obtain rfl : l = [(0, 3)] := hl.symm.trans (by kernel_rfl)
      have p0 : vs 0 = _ := hp 0 (by decide) (by decide)
      clear hp hl
      refine opgoal (_) (some 4) rfl rfl fun K hK => ?_
      obtain ⟨f0, f1, f2⟩ := td_cells (keep_block (.of_below (S := []) hS) hA.out (by simp))
      refine Runs.mk ?_
      simp only [putAll]
      go_simp
      refine hK _ _ ?_ hS ((fun w => Below.refl _ w) W) _ rfl rfl
      first | rfl | go_simp | simp
    · -- 2: Op.call { callee := Callee.value (Operand.func 93), args := #[Operand.tmp 4], argTypes := #[3] }
      intro l hl vs W hS hR hp
      obtain rfl : l = [(0, 3), (1, 4)] := hl.symm.trans (by kernel_rfl)
      have p1 : vs 1 = _ := hp 1 (by decide) (by decide)
      clear hp hl
      refine opgoal (_) (some 5) rfl rfl fun K hK => ?_
      refine Runs.mk ?_
      simp only [putAll]
      go_simp
      refine (num_ref t1 W ya hya.out).mono ?_
      rintro e w' ⟨rfl, hb⟩
      go_simp
      exact hK _ _ rfl (below2 hS hb) hb _ rfl rfl
    · -- 3: Op.fieldAddr 51 (Operand.tmp 1) 1
      intro l hl vs W hS hR hp
      obtain rfl : l = [] := hl.symm.trans (by kernel_rfl)
      clear hp hl
      refine opgoal (_) (some 6) rfl rfl fun K hK => ?_
      refine Runs.mk ?_
      simp only [putAll]
      go_simp
      refine hK _ _ ?_ hS ((fun w => Below.refl _ w) W) _ rfl rfl
      first | rfl | go_simp | simp
    · -- 4: Op.load 3 (Operand.tmp 6)
      intro l hl vs W hS hR hp
      obtain rfl : l = [(3, 6)] := hl.symm.trans (by kernel_rfl)
      have p3 : vs 3 = _ := hp 3 (by decide) (by decide)
      clear hp hl
      refine opgoal (_) (some 7) rfl rfl fun K hK => ?_
      obtain ⟨f0, f1, f2⟩ := td_cells (keep_block (.of_below (S := []) hS) hA.out (by simp))
      refine Runs.mk ?_
      simp only [putAll]
      go_simp
      refine hK _ _ ?_ hS ((fun w => Below.refl _ w) W) _ rfl rfl
      first | rfl | go_simp | simp
    · -- 5: Op.call { callee := Callee.value (Operand.func 93), args := #[Operand.tmp 7], argTypes := #[3] }
      intro l hl vs W hS hR hp
      obtain rfl : l = [(0, 3), (1, 4), (2, 5), (3, 6), (4, 7)] := hl.symm.trans (by kernel_rfl)
      have p4 : vs 4 = _ := hp 4 (by decide) (by decide)
      clear hp hl
      refine opgoal (_) (some 8) rfl rfl fun K hK => ?_
      refine Runs.mk ?_
      simp only [putAll]
      go_simp
      refine (num_ref t2 W yb hyb.out).mono ?_
      rintro e w' ⟨rfl, hb⟩
      go_simp
      exact hK _ _ rfl (below2 hS hb) hb _ rfl rfl
    · -- 6: Op.binOp BinOp.add 9 (Operand.tmp 5) (Operand.tmp 8) 9
      intro l hl vs W hS hR hp
      obtain rfl : l = [(0, 3), (1, 4), (2, 5), (3, 6), (4, 7), (5, 8)] := hl.symm.trans (by kernel_rfl)
      have p2 : vs 2 = _ := hp 2 (by decide) (by decide)
      have p5 : vs 5 = _ := hp 5 (by decide) (by decide)
      clear hp hl
      refine opgoal (_) (some 9) rfl rfl fun K hK => ?_
      refine Runs.mk ?_
      simp only [putAll]
      go_simp
      refine hK _ _ ?_ hS ((fun w => Below.refl _ w) W) _ rfl rfl
      first | rfl | go_simp | simp
    · -- 7: Op.fieldAddr 51 (Operand.tmp 1) 2
      intro l hl vs W hS hR hp
      obtain rfl : l = [] := hl.symm.trans (by kernel_rfl)
      clear hp hl
      refine opgoal (_) (some 10) rfl rfl fun K hK => ?_
      refine Runs.mk ?_
      simp only [putAll]
      go_simp
      refine hK _ _ ?_ hS ((fun w => Below.refl _ w) W) _ rfl rfl
      first | rfl | go_simp | simp
    · -- 8: Op.load 3 (Operand.tmp 10)
      intro l hl vs W hS hR hp
      obtain rfl : l = [(7, 10)] := hl.symm.trans (by kernel_rfl)
      have p7 : vs 7 = _ := hp 7 (by decide) (by decide)
      clear hp hl
      refine opgoal (_) (some 11) rfl rfl fun K hK => ?_
      obtain ⟨f0, f1, f2⟩ := td_cells (keep_block (.of_below (S := []) hS) hA.out (by simp))
      refine Runs.mk ?_
      simp only [putAll]
      go_simp
      refine hK _ _ ?_ hS ((fun w => Below.refl _ w) W) _ rfl rfl
      first | rfl | go_simp | simp
    · -- 9: Op.call { callee := Callee.value (Operand.func 93), args := #[Operand.tmp 11], argTypes := #[3] }
      intro l hl vs W hS hR hp
      obtain rfl : l = [(0, 3), (1, 4), (2, 5), (3, 6), (4, 7), (5, 8), (7, 10), (8, 11)] := hl.symm.trans (by kernel_rfl)
      have p8 : vs 8 = _ := hp 8 (by decide) (by decide)
      clear hp hl
      refine opgoal (_) (some 12) rfl rfl fun K hK => ?_
      refine Runs.mk ?_
      simp only [putAll]
      go_simp
      refine (num_ref t3 W yc hyc.out).mono ?_
      rintro e w' ⟨rfl, hb⟩
      go_simp
      exact hK _ _ rfl (below2 hS hb) hb _ rfl rfl
    · -- 10: Op.binOp BinOp.add 9 (Operand.tmp 9) (Operand.tmp 12) 9
      intro l hl vs W hS hR hp
      obtain rfl : l = [(0, 3), (1, 4), (2, 5), (3, 6), (4, 7), (5, 8), (6, 9), (7, 10), (8, 11), (9, 12)] := hl.symm.trans (by kernel_rfl)
      have p6 : vs 6 = _ := hp 6 (by decide) (by decide)
      have p9 : vs 9 = _ := hp 9 (by decide) (by decide)
      clear hp hl
      refine opgoal (_) (some 13) rfl rfl fun K hK => ?_
      refine Runs.mk ?_
      simp only [putAll]
      go_simp
      refine hK _ _ ?_ hS ((fun w => Below.refl _ w) W) _ rfl rfl
      first | rfl | go_simp | simp
    · -- 11: Op.assign (Operand.tmp 13)
      intro l hl vs W hS hR hp
      obtain rfl : l = [(0, 3), (1, 4), (2, 5), (3, 6), (4, 7), (5, 8), (6, 9), (7, 10), (8, 11), (9, 12), (10, 13)] := hl.symm.trans (by kernel_rfl)
      have p10 : vs 10 = _ := hp 10 (by decide) (by decide)
      clear hp hl
      refine opgoal (_) (some 2) rfl rfl fun K hK => ?_
      refine Runs.mk ?_
      simp only [putAll]
      go_simp
      refine hK _ _ ?_ hS ((fun w => Below.refl _ w) W) _ rfl rfl
      first | rfl | go_simp | simp
  · intro l hl vs W hS hR hp
    obtain rfl : l = [(0, 3), (1, 4), (2, 5), (3, 6), (4, 7), (5, 8), (6, 9), (7, 10), (8, 11), (9, 12), (10, 13), (11, 2)] := hl.symm.trans (by kernel_rfl)
    have p0 : vs 0 = _ := hp 0 (by decide) (by decide)
    have p1 : vs 1 = _ := hp 1 (by decide) (by decide)
    have p2 : vs 2 = _ := hp 2 (by decide) (by decide)
    have p3 : vs 3 = _ := hp 3 (by decide) (by decide)
    have p4 : vs 4 = _ := hp 4 (by decide) (by decide)
    have p5 : vs 5 = _ := hp 5 (by decide) (by decide)
    have p6 : vs 6 = _ := hp 6 (by decide) (by decide)
    have p7 : vs 7 = _ := hp 7 (by decide) (by decide)
    have p8 : vs 8 = _ := hp 8 (by decide) (by decide)
    have p9 : vs 9 = _ := hp 9 (by decide) (by decide)
    have p10 : vs 10 = _ := hp 10 (by decide) (by decide)
    have p11 : vs 11 = _ := hp 11 (by decide) (by decide)
    clear hp hl
    simp only [putAll_mk, setAll, List.setIfInBounds_toArray, List.set_cons_succ, List.set_cons_zero, p0, p1, p2, p3, p4, p5, p6, p7, p8, p9, p10, p11]
    have HS := Lib.hid (below2 hb0.out hS)
    clear hS hR hS0
    go_wp2
    go_ret
    exact ⟨retv (congrArg Value.string hres.out), HS.out⟩
set_option maxHeartbeats 4000000 in
set_option maxRecDepth 100000 in
theorem nodes_refs (xs : List Int) (A : Option Addr) (n c : Nat) (w : World) (hr : Rd w A n (xs.map (Value.int .i64))) (hn : n ≤ 65535) : Calls Try.prog 45 #[.slice A n c] w fun e w' => e = .returned (.string (str (bigB n 2 ++ numsB xs))) ∧ Below w.heap.size w w' := by
  have hn9 := hr.2.1
  have HR := Lib.hid hr
  have HN : Hid (xs.length = n) := Lib.hid (by simpa using hr.len)
  have H0 := Lib.hid (big_any n 2 (by omega) (by omega) w)
  clear hr
  go_enter Try.func45, Try.ntmps45
  go_wp2_with fail
  refine H0.out.mono ?_
  rintro e w1 ⟨rfl, hb1⟩
  have HB1 := Lib.hid hb1
  clear hb1 H0
  go_wp2
  go_loopw [3, 4] (fun s i wr => ∃ k : Nat, k ≤ n ∧ s = .string (str (bigB n 2 ++ numsB (xs.take k))) ∧ i = .int .i64 k ∧ Below w.heap.size w wr) (fun _ i _ => n - (intOf i).toNat)
  case atStart => exact ⟨0, by omega, by simp [numsB, str], rfl, HB1.out⟩
  case round =>
    obtain ⟨k, hk, rfl, rfl, hb⟩ := hrel
    by_cases hlt : k < n
    · have hkl : k < xs.length := by have := HN.out; omega
      obtain ⟨x, hx⟩ : ∃ x, Hid (xs[k] = x) := ⟨_, Lib.hid rfl⟩
      obtain ⟨ab, ao, hAe, hc⟩ := (HR.out.below hb).2.2 (by omega)
      subst hAe
      have c0 := rd_at hc hlt hkl hx.out
      obtain ⟨y0, hy0⟩ : ∃ y, Hid (str (bigB n 2 ++ numsB (xs.take k)) = y) := ⟨_, Lib.hid rfl⟩
      obtain ⟨yx, hyx⟩ : ∃ y, Hid (str (bigB (u64 x) 8) = y) := ⟨_, Lib.hid rfl⟩
      have z1 : y0.size + yx.size ≤ 9223372036854775807 := by rw [← hy0.out, ← hyx.out, str_size, str_size, len_big, List.length_append, len_big, len_nums, List.length_take]; omega
      have hnext : Hid (str (bigB n 2 ++ numsB (xs.take (k + 1))) = y0 ++ yx) := Lib.hid (by
        rw [← hy0.out, ← hyx.out, str_cat, ← take_snoc xs k hkl, hx.out]
        simp [numsB])
      have HB := Lib.hid hb
      have HC := Lib.hid (num_ref x wr yx hyx.out)
      rw [hy0.out]
      clear hc hb
      go_wp2_with fail
      refine HC.out.mono ?_
      rintro e w2 ⟨rfl, hb2⟩
      go_wp2
      go_roundw
      case rel => exact ⟨k + 1, by omega, by rw [hnext.out], by go_num, below2 HB.out hb2⟩
      case measure => simp [intOf]; omega
    · have hkn : n = k := by omega
      have hres : Hid (str (bigB n 2 ++ numsB (xs.take k)) = str (bigB n 2 ++ numsB xs)) := Lib.hid (by rw [List.take_of_length_le (by have := HN.out; omega)])
      rw [hres.out]
      go_wp2
      go_ret
      exact ⟨rfl, hb⟩
set_option maxHeartbeats 8000000 in
set_option maxRecDepth 100000 in
theorem items_refs (l : List Im) (A : Option Addr) (n c : Nat) (w : World) (hr : Ims w A n l) (hn : n ≤ 65535) : Calls Try.prog 44 #[.slice A n c] w fun e w' => e = .returned (.string (str (bigB n 2 ++ itemsB l))) ∧ Below w.heap.size w w' := by
  have hn9 := hr.rd.2.1
  have H := Lib.hid hr
  have HN := Lib.hid hr.len
  have H0 := Lib.hid (big_any n 2 (by omega) (by omega) w)
  clear hr
  go_enter Try.func44, Try.ntmps44
  go_wp2_with fail
  refine H0.out.mono ?_
  rintro e w1 ⟨rfl, hb1⟩
  have HB1 := Lib.hid hb1
  clear hb1 H0
  go_wp2
  go_loopw [3, 4] (fun s i wr => ∃ k : Nat, k ≤ n ∧ s = .string (str (bigB n 2 ++ itemsB (l.take k))) ∧ i = .int .i64 k ∧ Below w.heap.size w wr) (fun _ i _ => n - (intOf i).toNat)
  case atStart => exact ⟨0, by omega, by simp [itemsB, str], rfl, HB1.out⟩
  case round =>
    obtain ⟨k, hk, rfl, rfl, hb0⟩ := hrel
    have hb := Lib.hid hb0
    by_cases hlt : k < n
    · have hkl : k < l.length := by have := HN.out; omega
      obtain ⟨x, hx⟩ : ∃ x, Hid (l[k] = x) := ⟨_, Lib.hid rfl⟩
      obtain ⟨ab, ao, hAe, c0, c1, c2, c3, c4⟩ := (H.out.below hb0).at k hlt hkl x hx.out
      subst hAe
      obtain ⟨y0, hy0⟩ : ∃ y, Hid (str (bigB n 2 ++ itemsB (l.take k)) = y) := ⟨_, Lib.hid rfl⟩
      obtain ⟨xc, xv, xl, xw, xn⟩ := x
      dsimp only at c0 c1 c2 c3 c4
      obtain ⟨yc, hyc⟩ : ∃ y, Hid (str (bigB (u64 xc) 8) = y) := ⟨_, Lib.hid rfl⟩
      obtain ⟨yv, hyv⟩ : ∃ y, Hid (str (bigB (u64 xv) 8) = y) := ⟨_, Lib.hid rfl⟩
      obtain ⟨yl, hyl⟩ : ∃ y, Hid (str (bigB (u64 xl) 8) = y) := ⟨_, Lib.hid rfl⟩
      obtain ⟨yn, hyn⟩ : ∃ y, Hid (str (bigB (u64 xn) 8) = y) := ⟨_, Lib.hid rfl⟩
      obtain ⟨yw, hyw⟩ : ∃ y, Hid (str (bigB (if xw then 1 else 0) 1) = y) := ⟨_, Lib.hid rfl⟩
      have q0 : y0.size ≤ 2 + 65535 * 33 := by rw [← hy0.out, str_size, List.length_append, len_big, len_items, List.length_take]; omega
      have q1 : yc.size = 8 := by rw [← hyc.out, str_size, len_big]
      have q2 : yv.size = 8 := by rw [← hyv.out, str_size, len_big]
      have q3 : yl.size = 8 := by rw [← hyl.out, str_size, len_big]
      have q4 : yw.size = 1 := by rw [← hyw.out, str_size, len_big]
      have q5 : yn.size = 8 := by rw [← hyn.out, str_size, len_big]
      have z1 : ¬ 9223372036854775807 < y0.size + yc.size := by omega
      have z2 : ¬ 9223372036854775807 < y0.size + yc.size + yv.size := by omega
      have z3 : ¬ 9223372036854775807 < y0.size + yc.size + yv.size + yl.size := by omega
      have z4 : ¬ 9223372036854775807 < y0.size + yc.size + yv.size + yl.size + yw.size := by omega
      have z5 : ¬ 9223372036854775807 < y0.size + yc.size + yv.size + yl.size + yw.size + yn.size := by omega
      clear q0 q1 q2 q3 q4 q5
      have hnext : Hid (str (bigB n 2 ++ itemsB (l.take (k + 1))) = y0 ++ yc ++ yv ++ yl ++ yw ++ yn) := Lib.hid (by
        rw [← hy0.out, ← hyc.out, ← hyv.out, ← hyl.out, ← hyn.out, ← hyw.out, str_cat, str_cat, str_cat, str_cat, str_cat, items_snoc l k hkl _ hx.out]
        have : bigB (if xw then 1 else 0) 1 = [if xw then 1 else 0] := by cases xw <;> kernel_rfl
        rw [this]
        simp [itemB, numsB])
      rw [hy0.out]
      have C0 := Lib.hid c0
      have C1 := Lib.hid c1
      have C2 := Lib.hid c2
      have C4 := Lib.hid c4
      have hS0 : Below wr.heap.size wr wr.drew := below_drew (Below.refl _ _)
      clear hb0 c0 c1 c2 c4
      cases xw
      case false =>
        have HYW : Hid ((⟨(bigB 0 1).toArray⟩ : ByteArray) = yw) := Lib.hid hyw.out
        go_wp2_with fail
        refine wp_region_one (fun W => Below wr.heap.size wr W) (fun u v => Below u.heap.size u v) (fun a i => match i with
            | 0 => (fun v _ => v = .string y0)
            | 1 => (fun v _ => v = .slice (some ⟨ab, ao, none⟩) n c)
            | 2 => (fun v _ => v = .int .i64 (k : Nat))
            | 3 => (fun v _ => v = .pointer (some ⟨ab, ao + k * 5, none⟩))
            | 4 => (fun v _ => v = .pointer (some ⟨ab, ao + k * 5, none⟩))
            | 5 => (fun v _ => v = .int .i64 xc)
            | 6 => (fun v _ => v = .string yc)
            | 7 => (fun v _ => v = .string (y0 ++ yc))
            | 8 => (fun v _ => v = .slice (some ⟨ab, ao, none⟩) n c)
            | 9 => (fun v _ => v = .int .i64 (k : Nat))
            | 10 => (fun v _ => v = .pointer (some ⟨ab, ao + k * 5, none⟩))
            | 11 => (fun v _ => v = .pointer (some ⟨ab, ao + k * 5 + 1, none⟩))
            | 12 => (fun v _ => v = .int .i64 xv)
            | 13 => (fun v _ => v = .string yv)
            | 14 => (fun v _ => v = .string (y0 ++ yc ++ yv))
            | 15 => (fun v _ => v = .slice (some ⟨ab, ao, none⟩) n c)
            | 16 => (fun v _ => v = .int .i64 (k : Nat))
            | 17 => (fun v _ => v = .pointer (some ⟨ab, ao + k * 5, none⟩))
            | 18 => (fun v _ => v = .pointer (some ⟨ab, ao + k * 5 + 2, none⟩))
            | 19 => (fun v _ => v = .int .i64 xl)
            | 20 => (fun v _ => v = .string yl)
            | 21 => (fun v _ => v = .string (y0 ++ yc ++ yv ++ yl))
            | 22 => (fun v _ => v = .int .i64 0)
            | 23 => (fun v _ => v = .int .u64 0)
            | 24 => (fun v _ => v = .string yw)
            | 25 => (fun v _ => v = .string (y0 ++ yc ++ yv ++ yl ++ yw))
            | 26 => (fun v _ => v = .slice (some ⟨ab, ao, none⟩) n c)
            | 27 => (fun v _ => v = .int .i64 (k : Nat))
            | 28 => (fun v _ => v = .pointer (some ⟨ab, ao + k * 5, none⟩))
            | 29 => (fun v _ => v = .pointer (some ⟨ab, ao + k * 5 + 4, none⟩))
            | 30 => (fun v _ => v = .int .i64 xn)
            | 31 => (fun v _ => v = .string yn)
            | 32 => (fun v _ => v = .string (y0 ++ yc ++ yv ++ yl ++ yw ++ yn))
            | 33 => (fun v _ => v = .string (y0 ++ yc ++ yv ++ yl ++ yw ++ yn))
            | _ => (fun _ _ => True)) #[0, 0, 0, 6, 14, 30, 62, 127, 0, 0, 768, 1792, 3840, 8062, 16383, 0, 0, 98304, 229376, 491520, 1032062, 2097151, 0, 4194304, 14663550, 33554431, 0, 0, 201326592, 469762048, 1006632960, 2111815550, 4294967295, 8589934591] #[0, 0, 0, 6, 8, 16, 32, 65, 0, 0, 768, 1024, 2048, 4096, 8320, 0, 0, 98304, 131072, 262144, 524288, 1064960, 0, 4194304, 8388608, 18874368, 0, 0, 201326592, 268435456, 536870912, 1073741824, 2181038080, 4294967296] 17179869183 (by kernel_rfl) 34 rfl (fun m hm => by subst hm; kernel_rfl) (by kernel_rfl) (fun w => Below.refl _ w) (fun u v w h1 h2 => below2 h1 h2) ?_ (hS0) ?_ ?_
        · intro i hi
          rcases (by omega : i = 0 ∨ i = 1 ∨ i = 2 ∨ i = 3 ∨ i = 4 ∨ i = 5 ∨ i = 6 ∨ i = 7 ∨ i = 8 ∨ i = 9 ∨ i = 10 ∨ i = 11 ∨ i = 12 ∨ i = 13 ∨ i = 14 ∨ i = 15 ∨ i = 16 ∨ i = 17 ∨ i = 18 ∨ i = 19 ∨ i = 20 ∨ i = 21 ∨ i = 22 ∨ i = 23 ∨ i = 24 ∨ i = 25 ∨ i = 26 ∨ i = 27 ∨ i = 28 ∨ i = 29 ∨ i = 30 ∨ i = 31 ∨ i = 32 ∨ i = 33) with rfl | rfl | rfl | rfl | rfl | rfl | rfl | rfl | rfl | rfl | rfl | rfl | rfl | rfl | rfl | rfl | rfl | rfl | rfl | rfl | rfl | rfl | rfl | rfl | rfl | rfl | rfl | rfl | rfl | rfl | rfl | rfl | rfl | rfl
          · exact fun v w w' h hr => by exact h
          · exact fun v w w' h hr => by exact h
          · exact fun v w w' h hr => by exact h
          · exact fun v w w' h hr => by exact h
          · exact fun v w w' h hr => by exact h
          · exact fun v w w' h hr => by exact h
          · exact fun v w w' h hr => by exact h
          · exact fun v w w' h hr => by exact h
          · exact fun v w w' h hr => by exact h
          · exact fun v w w' h hr => by exact h
          · exact fun v w w' h hr => by exact h
          · exact fun v w w' h hr => by exact h
          · exact fun v w w' h hr => by exact h
          · exact fun v w w' h hr => by exact h
          · exact fun v w w' h hr => by exact h
          · exact fun v w w' h hr => by exact h
          · exact fun v w w' h hr => by exact h
          · exact fun v w w' h hr => by exact h
          · exact fun v w w' h hr => by exact h
          · exact fun v w w' h hr => by exact h
          · exact fun v w w' h hr => by exact h
          · exact fun v w w' h hr => by exact h
          · exact fun v w w' h hr => by exact h
          · exact fun v w w' h hr => by exact h
          · exact fun v w w' h hr => by exact h
          · exact fun v w w' h hr => by exact h
          · exact fun v w w' h hr => by exact h
          · exact fun v w w' h hr => by exact h
          · exact fun v w w' h hr => by exact h
          · exact fun v w w' h hr => by exact h
          · exact fun v w w' h hr => by exact h
          · exact fun v w w' h hr => by exact h
          · exact fun v w w' h hr => by exact h
          · exact fun v w w' h hr => by exact h
        · intro i hi
          rcases (by omega : i = 0 ∨ i = 1 ∨ i = 2 ∨ i = 3 ∨ i = 4 ∨ i = 5 ∨ i = 6 ∨ i = 7 ∨ i = 8 ∨ i = 9 ∨ i = 10 ∨ i = 11 ∨ i = 12 ∨ i = 13 ∨ i = 14 ∨ i = 15 ∨ i = 16 ∨ i = 17 ∨ i = 18 ∨ i = 19 ∨ i = 20 ∨ i = 21 ∨ i = 22 ∨ i = 23 ∨ i = 24 ∨ i = 25 ∨ i = 26 ∨ i = 27 ∨ i = 28 ∨ i = 29 ∨ i = 30 ∨ i = 31 ∨ i = 32 ∨ i = 33) with rfl | rfl | rfl | rfl | rfl | rfl | rfl | rfl | rfl | rfl | rfl | rfl | rfl | rfl | rfl | rfl | rfl | rfl | rfl | rfl | rfl | rfl | rfl | rfl | rfl | rfl | rfl | rfl | rfl | rfl | rfl | rfl | rfl | rfl
          · -- 0: Op.move (Operand.tmp 3)
            intro l hl vs W hS hR hp
            obtain rfl : l = [] := hl.symm.trans (by kernel_rfl)
            clear hp hl
            refine opgoal (_) (some 21) rfl rfl fun K hK => ?_
            refine Runs.mk ?_
            simp only [putAll]
            go_simp
            refine hK _ _ ?_ hS ((fun w => Below.refl _ w) W) _ rfl rfl
            first | rfl | go_simp | simp
          · -- 1: Op.move (Operand.tmp 0)
            intro l hl vs W hS hR hp
            obtain rfl : l = [] := hl.symm.trans (by kernel_rfl)
            clear hp hl
            refine opgoal (_) (some 22) rfl rfl fun K hK => ?_
            refine Runs.mk ?_
            simp only [putAll]
            go_simp
            refine hK _ _ ?_ hS ((fun w => Below.refl _ w) W) _ rfl rfl
            first | rfl | go_simp | simp
          · -- 2: Op.move (Operand.tmp 4)
            intro l hl vs W hS hR hp
            obtain rfl : l = [] := hl.symm.trans (by kernel_rfl)
            clear hp hl
            refine opgoal (_) (some 23) rfl rfl fun K hK => ?_
            refine Runs.mk ?_
            simp only [putAll]
            go_simp
            refine hK _ _ ?_ hS ((fun w => Below.refl _ w) W) _ rfl rfl
            first | rfl | go_simp | simp
          · -- 3: Op.indexAddr 54 (Operand.tmp 22) (Operand.tmp 23)
            intro l hl vs W hS hR hp
            obtain rfl : l = [(1, 22), (2, 23)] := hl.symm.trans (by kernel_rfl)
            have p1 : vs 1 = _ := hp 1 (by decide) (by decide)
            have p2 : vs 2 = _ := hp 2 (by decide) (by decide)
            clear hp hl
            refine opgoal (_) (some 24) rfl rfl fun K hK => ?_
            refine Runs.mk ?_
            simp only [putAll]
            go_simp
            refine hK _ _ ?_ hS ((fun w => Below.refl _ w) W) _ rfl rfl
            first | rfl | go_simp | simp
          · -- 4: Op.fieldAddr 86 (Operand.tmp 24) 0
            intro l hl vs W hS hR hp
            obtain rfl : l = [(1, 22), (2, 23), (3, 24)] := hl.symm.trans (by kernel_rfl)
            have p3 : vs 3 = _ := hp 3 (by decide) (by decide)
            clear hp hl
            refine opgoal (_) (some 25) rfl rfl fun K hK => ?_
            refine Runs.mk ?_
            simp only [putAll]
            go_simp
            refine hK _ _ ?_ hS ((fun w => Below.refl _ w) W) _ rfl rfl
            first | rfl | go_simp | simp
          · -- 5: Op.load 3 (Operand.tmp 25)
            intro l hl vs W hS hR hp
            obtain rfl : l = [(1, 22), (2, 23), (3, 24), (4, 25)] := hl.symm.trans (by kernel_rfl)
            have p4 : vs 4 = _ := hp 4 (by decide) (by decide)
            clear hp hl
            refine opgoal (_) (some 26) rfl rfl fun K hK => ?_
            have fc := cell_below hS C0.out
            refine Runs.mk ?_
            simp only [putAll]
            go_simp
            refine hK _ _ ?_ hS ((fun w => Below.refl _ w) W) _ rfl rfl
            first | rfl | go_simp | simp
          · -- 6: Op.call { callee := Callee.value (Operand.func 93), args := #[Operand.tmp 26], argTypes := #[3] }
            intro l hl vs W hS hR hp
            obtain rfl : l = [(1, 22), (2, 23), (3, 24), (4, 25), (5, 26)] := hl.symm.trans (by kernel_rfl)
            have p5 : vs 5 = _ := hp 5 (by decide) (by decide)
            clear hp hl
            refine opgoal (_) (some 27) rfl rfl fun K hK => ?_
            refine Runs.mk ?_
            simp only [putAll]
            go_simp
            refine (num_ref xc W yc hyc.out).mono ?_
            rintro e w' ⟨rfl, hb⟩
            go_simp
            exact hK _ _ rfl (below2 hS hb) hb _ rfl rfl
          · -- 7: Op.binOp BinOp.add 9 (Operand.tmp 21) (Operand.tmp 27) 9
            intro l hl vs W hS hR hp
            obtain rfl : l = [(0, 21), (1, 22), (2, 23), (3, 24), (4, 25), (5, 26), (6, 27)] := hl.symm.trans (by kernel_rfl)
            have p0 : vs 0 = _ := hp 0 (by decide) (by decide)
            have p6 : vs 6 = _ := hp 6 (by decide) (by decide)
            clear hp hl
            refine opgoal (_) (some 28) rfl rfl fun K hK => ?_
            refine Runs.mk ?_
            simp only [putAll]
            go_simp
            refine hK _ _ ?_ hS ((fun w => Below.refl _ w) W) _ rfl rfl
            first | rfl | go_simp | simp
          · -- 8: Op.move (Operand.tmp 0)
            intro l hl vs W hS hR hp
            obtain rfl : l = [] := hl.symm.trans (by kernel_rfl)
            clear hp hl
            refine opgoal (_) (some 29) rfl rfl fun K hK => ?_
            refine Runs.mk ?_
            simp only [putAll]
            go_simp
            refine hK _ _ ?_ hS ((fun w => Below.refl _ w) W) _ rfl rfl
            first | rfl | go_simp | simp
          · -- 9: Op.move (Operand.tmp 4)
            intro l hl vs W hS hR hp
            obtain rfl : l = [] := hl.symm.trans (by kernel_rfl)
            clear hp hl
            refine opgoal (_) (some 30) rfl rfl fun K hK => ?_
            refine Runs.mk ?_
            simp only [putAll]
            go_simp
            refine hK _ _ ?_ hS ((fun w => Below.refl _ w) W) _ rfl rfl
            first | rfl | go_simp | simp
          · -- 10: Op.indexAddr 54 (Operand.tmp 29) (Operand.tmp 30)
            intro l hl vs W hS hR hp
            obtain rfl : l = [(8, 29), (9, 30)] := hl.symm.trans (by kernel_rfl)
            have p8 : vs 8 = _ := hp 8 (by decide) (by decide)
            have p9 : vs 9 = _ := hp 9 (by decide) (by decide)
            clear hp hl
            refine opgoal (_) (some 31) rfl rfl fun K hK => ?_
            refine Runs.mk ?_
            simp only [putAll]
            go_simp
            refine hK _ _ ?_ hS ((fun w => Below.refl _ w) W) _ rfl rfl
            first | rfl | go_simp | simp
          · -- 11: Op.fieldAddr 86 (Operand.tmp 31) 1
            intro l hl vs W hS hR hp
            obtain rfl : l = [(8, 29), (9, 30), (10, 31)] := hl.symm.trans (by kernel_rfl)
            have p10 : vs 10 = _ := hp 10 (by decide) (by decide)
            clear hp hl
            refine opgoal (_) (some 32) rfl rfl fun K hK => ?_
            refine Runs.mk ?_
            simp only [putAll]
            go_simp
            refine hK _ _ ?_ hS ((fun w => Below.refl _ w) W) _ rfl rfl
            first | rfl | go_simp | simp
          · -- 12: Op.load 3 (Operand.tmp 32)
            intro l hl vs W hS hR hp
            obtain rfl : l = [(8, 29), (9, 30), (10, 31), (11, 32)] := hl.symm.trans (by kernel_rfl)
            have p11 : vs 11 = _ := hp 11 (by decide) (by decide)
            clear hp hl
            refine opgoal (_) (some 33) rfl rfl fun K hK => ?_
            have fc := cell_below hS C1.out
            refine Runs.mk ?_
            simp only [putAll]
            go_simp
            refine hK _ _ ?_ hS ((fun w => Below.refl _ w) W) _ rfl rfl
            first | rfl | go_simp | simp
          · -- 13: Op.call { callee := Callee.value (Operand.func 93), args := #[Operand.tmp 33], argTypes := #[3] }
            intro l hl vs W hS hR hp
            obtain rfl : l = [(1, 22), (2, 23), (3, 24), (4, 25), (5, 26), (6, 27), (8, 29), (9, 30), (10, 31), (11, 32), (12, 33)] := hl.symm.trans (by kernel_rfl)
            have p12 : vs 12 = _ := hp 12 (by decide) (by decide)
            clear hp hl
            refine opgoal (_) (some 34) rfl rfl fun K hK => ?_
            refine Runs.mk ?_
            simp only [putAll]
            go_simp
            refine (num_ref xv W yv hyv.out).mono ?_
            rintro e w' ⟨rfl, hb⟩
            go_simp
            exact hK _ _ rfl (below2 hS hb) hb _ rfl rfl
          · -- 14: Op.binOp BinOp.add 9 (Operand.tmp 28) (Operand.tmp 34) 9
            intro l hl vs W hS hR hp
            obtain rfl : l = [(0, 21), (1, 22), (2, 23), (3, 24), (4, 25), (5, 26), (6, 27), (7, 28), (8, 29), (9, 30), (10, 31), (11, 32), (12, 33), (13, 34)] := hl.symm.trans (by kernel_rfl)
            have p7 : vs 7 = _ := hp 7 (by decide) (by decide)
            have p13 : vs 13 = _ := hp 13 (by decide) (by decide)
            clear hp hl
            refine opgoal (_) (some 35) rfl rfl fun K hK => ?_
            refine Runs.mk ?_
            simp only [putAll]
            go_simp
            refine hK _ _ ?_ hS ((fun w => Below.refl _ w) W) _ rfl rfl
            first | rfl | go_simp | simp
          · -- 15: Op.move (Operand.tmp 0)
            intro l hl vs W hS hR hp
            obtain rfl : l = [] := hl.symm.trans (by kernel_rfl)
            clear hp hl
            refine opgoal (_) (some 36) rfl rfl fun K hK => ?_
            refine Runs.mk ?_
            simp only [putAll]
            go_simp
            refine hK _ _ ?_ hS ((fun w => Below.refl _ w) W) _ rfl rfl
            first | rfl | go_simp | simp
          · -- 16: Op.move (Operand.tmp 4)
            intro l hl vs W hS hR hp
            obtain rfl : l = [] := hl.symm.trans (by kernel_rfl)
            clear hp hl
            refine opgoal (_) (some 37) rfl rfl fun K hK => ?_
            refine Runs.mk ?_
            simp only [putAll]
            go_simp
            refine hK _ _ ?_ hS ((fun w => Below.refl _ w) W) _ rfl rfl
            first | rfl | go_simp | simp
          · -- 17: Op.indexAddr 54 (Operand.tmp 36) (Operand.tmp 37)
            intro l hl vs W hS hR hp
            obtain rfl : l = [(15, 36), (16, 37)] := hl.symm.trans (by kernel_rfl)
            have p15 : vs 15 = _ := hp 15 (by decide) (by decide)
            have p16 : vs 16 = _ := hp 16 (by decide) (by decide)
            clear hp hl
            refine opgoal (_) (some 38) rfl rfl fun K hK => ?_
            refine Runs.mk ?_
            simp only [putAll]
            go_simp
            refine hK _ _ ?_ hS ((fun w => Below.refl _ w) W) _ rfl rfl
            first | rfl | go_simp | simp
          · -- 18: Op.fieldAddr 86 (Operand.tmp 38) 2
            intro l hl vs W hS hR hp
            obtain rfl : l = [(15, 36), (16, 37), (17, 38)] := hl.symm.trans (by kernel_rfl)
            have p17 : vs 17 = _ := hp 17 (by decide) (by decide)
            clear hp hl
            refine opgoal (_) (some 39) rfl rfl fun K hK => ?_
            refine Runs.mk ?_
            simp only [putAll]
            go_simp
            refine hK _ _ ?_ hS ((fun w => Below.refl _ w) W) _ rfl rfl
            first | rfl | go_simp | simp
          · -- 19: Op.load 3 (Operand.tmp 39)
            intro l hl vs W hS hR hp
            obtain rfl : l = [(15, 36), (16, 37), (17, 38), (18, 39)] := hl.symm.trans (by kernel_rfl)
            have p18 : vs 18 = _ := hp 18 (by decide) (by decide)
            clear hp hl
            refine opgoal (_) (some 40) rfl rfl fun K hK => ?_
            have fc := cell_below hS C2.out
            refine Runs.mk ?_
            simp only [putAll]
            go_simp
            refine hK _ _ ?_ hS ((fun w => Below.refl _ w) W) _ rfl rfl
            first | rfl | go_simp | simp
          · -- 20: Op.call { callee := Callee.value (Operand.func 93), args := #[Operand.tmp 40], argTypes := #[3] }
            intro l hl vs W hS hR hp
            obtain rfl : l = [(1, 22), (2, 23), (3, 24), (4, 25), (5, 26), (6, 27), (8, 29), (9, 30), (10, 31), (11, 32), (12, 33), (13, 34), (15, 36), (16, 37), (17, 38), (18, 39), (19, 40)] := hl.symm.trans (by kernel_rfl)
            have p19 : vs 19 = _ := hp 19 (by decide) (by decide)
            clear hp hl
            refine opgoal (_) (some 41) rfl rfl fun K hK => ?_
            refine Runs.mk ?_
            simp only [putAll]
            go_simp
            refine (num_ref xl W yl hyl.out).mono ?_
            rintro e w' ⟨rfl, hb⟩
            go_simp
            exact hK _ _ rfl (below2 hS hb) hb _ rfl rfl
          · -- 21: Op.binOp BinOp.add 9 (Operand.tmp 35) (Operand.tmp 41) 9
            intro l hl vs W hS hR hp
            obtain rfl : l = [(0, 21), (1, 22), (2, 23), (3, 24), (4, 25), (5, 26), (6, 27), (7, 28), (8, 29), (9, 30), (10, 31), (11, 32), (12, 33), (13, 34), (14, 35), (15, 36), (16, 37), (17, 38), (18, 39), (19, 40), (20, 41)] := hl.symm.trans (by kernel_rfl)
            have p14 : vs 14 = _ := hp 14 (by decide) (by decide)
            have p20 : vs 20 = _ := hp 20 (by decide) (by decide)
            clear hp hl
            refine opgoal (_) (some 42) rfl rfl fun K hK => ?_
            refine Runs.mk ?_
            simp only [putAll]
            go_simp
            refine hK _ _ ?_ hS ((fun w => Below.refl _ w) W) _ rfl rfl
            first | rfl | go_simp | simp
          · -- 22: Op.move (Operand.tmp 5)
            intro l hl vs W hS hR hp
            obtain rfl : l = [] := hl.symm.trans (by kernel_rfl)
            clear hp hl
            refine opgoal (_) (some 43) rfl rfl fun K hK => ?_
            refine Runs.mk ?_
            simp only [putAll]
            go_simp
            refine hK _ _ ?_ hS ((fun w => Below.refl _ w) W) _ rfl rfl
            first | rfl | go_simp | simp
          · -- 23: Op.convert 3 131 (Operand.tmp 43)
            intro l hl vs W hS hR hp
            obtain rfl : l = [(22, 43)] := hl.symm.trans (by kernel_rfl)
            have p22 : vs 22 = _ := hp 22 (by decide) (by decide)
            clear hp hl
            refine opgoal (_) (some 44) rfl rfl fun K hK => ?_
            refine Runs.mk ?_
            simp only [putAll]
            go_simp
            refine hK _ _ ?_ hS ((fun w => Below.refl _ w) W) _ rfl rfl
            first | rfl | go_simp | simp
          · -- 24: Op.call { callee := Callee.value (Operand.func 87), args := #[Operand.tmp 44, Operand.const (Value.int IntKind.i64 1)], argTypes := #[131, 3] }
            intro l hl vs W hS hR hp
            obtain rfl : l = [(1, 22), (2, 23), (3, 24), (4, 25), (5, 26), (6, 27), (8, 29), (9, 30), (10, 31), (11, 32), (12, 33), (13, 34), (15, 36), (16, 37), (17, 38), (18, 39), (19, 40), (20, 41), (22, 43), (23, 44)] := hl.symm.trans (by kernel_rfl)
            have p23 : vs 23 = _ := hp 23 (by decide) (by decide)
            clear hp hl
            refine opgoal (_) (some 45) rfl rfl fun K hK => ?_
            refine Runs.mk ?_
            simp only [putAll]
            go_simp
            refine (big_any 0 1 (by omega) (by omega) W).mono ?_
            rintro e w' ⟨he, hb⟩
            rw [HYW.out] at he
            subst he
            go_simp
            exact hK _ _ rfl (below2 hS hb) hb _ rfl rfl
          · -- 25: Op.binOp BinOp.add 9 (Operand.tmp 42) (Operand.tmp 45) 9
            intro l hl vs W hS hR hp
            obtain rfl : l = [(0, 21), (1, 22), (2, 23), (3, 24), (4, 25), (5, 26), (6, 27), (7, 28), (8, 29), (9, 30), (10, 31), (11, 32), (12, 33), (13, 34), (14, 35), (15, 36), (16, 37), (17, 38), (18, 39), (19, 40), (20, 41), (21, 42), (22, 43), (23, 44), (24, 45)] := hl.symm.trans (by kernel_rfl)
            have p21 : vs 21 = _ := hp 21 (by decide) (by decide)
            have p24 : vs 24 = _ := hp 24 (by decide) (by decide)
            clear hp hl
            refine opgoal (_) (some 46) rfl rfl fun K hK => ?_
            refine Runs.mk ?_
            simp only [putAll]
            go_simp
            refine hK _ _ ?_ hS ((fun w => Below.refl _ w) W) _ rfl rfl
            first | rfl | go_simp | simp
          · -- 26: Op.move (Operand.tmp 0)
            intro l hl vs W hS hR hp
            obtain rfl : l = [] := hl.symm.trans (by kernel_rfl)
            clear hp hl
            refine opgoal (_) (some 47) rfl rfl fun K hK => ?_
            refine Runs.mk ?_
            simp only [putAll]
            go_simp
            refine hK _ _ ?_ hS ((fun w => Below.refl _ w) W) _ rfl rfl
            first | rfl | go_simp | simp
          · -- 27: Op.move (Operand.tmp 4)
            intro l hl vs W hS hR hp
            obtain rfl : l = [] := hl.symm.trans (by kernel_rfl)
            clear hp hl
            refine opgoal (_) (some 48) rfl rfl fun K hK => ?_
            refine Runs.mk ?_
            simp only [putAll]
            go_simp
            refine hK _ _ ?_ hS ((fun w => Below.refl _ w) W) _ rfl rfl
            first | rfl | go_simp | simp
          · -- 28: Op.indexAddr 54 (Operand.tmp 47) (Operand.tmp 48)
            intro l hl vs W hS hR hp
            obtain rfl : l = [(26, 47), (27, 48)] := hl.symm.trans (by kernel_rfl)
            have p26 : vs 26 = _ := hp 26 (by decide) (by decide)
            have p27 : vs 27 = _ := hp 27 (by decide) (by decide)
            clear hp hl
            refine opgoal (_) (some 49) rfl rfl fun K hK => ?_
            refine Runs.mk ?_
            simp only [putAll]
            go_simp
            refine hK _ _ ?_ hS ((fun w => Below.refl _ w) W) _ rfl rfl
            first | rfl | go_simp | simp
          · -- 29: Op.fieldAddr 86 (Operand.tmp 49) 4
            intro l hl vs W hS hR hp
            obtain rfl : l = [(26, 47), (27, 48), (28, 49)] := hl.symm.trans (by kernel_rfl)
            have p28 : vs 28 = _ := hp 28 (by decide) (by decide)
            clear hp hl
            refine opgoal (_) (some 50) rfl rfl fun K hK => ?_
            refine Runs.mk ?_
            simp only [putAll]
            go_simp
            refine hK _ _ ?_ hS ((fun w => Below.refl _ w) W) _ rfl rfl
            first | rfl | go_simp | simp
          · -- 30: Op.load 3 (Operand.tmp 50)
            intro l hl vs W hS hR hp
            obtain rfl : l = [(26, 47), (27, 48), (28, 49), (29, 50)] := hl.symm.trans (by kernel_rfl)
            have p29 : vs 29 = _ := hp 29 (by decide) (by decide)
            clear hp hl
            refine opgoal (_) (some 51) rfl rfl fun K hK => ?_
            have fc := cell_below hS C4.out
            refine Runs.mk ?_
            simp only [putAll]
            go_simp
            refine hK _ _ ?_ hS ((fun w => Below.refl _ w) W) _ rfl rfl
            first | rfl | go_simp | simp
          · -- 31: Op.call { callee := Callee.value (Operand.func 93), args := #[Operand.tmp 51], argTypes := #[3] }
            intro l hl vs W hS hR hp
            obtain rfl : l = [(1, 22), (2, 23), (3, 24), (4, 25), (5, 26), (6, 27), (8, 29), (9, 30), (10, 31), (11, 32), (12, 33), (13, 34), (15, 36), (16, 37), (17, 38), (18, 39), (19, 40), (20, 41), (22, 43), (23, 44), (24, 45), (26, 47), (27, 48), (28, 49), (29, 50), (30, 51)] := hl.symm.trans (by kernel_rfl)
            have p30 : vs 30 = _ := hp 30 (by decide) (by decide)
            clear hp hl
            refine opgoal (_) (some 52) rfl rfl fun K hK => ?_
            refine Runs.mk ?_
            simp only [putAll]
            go_simp
            refine (num_ref xn W yn hyn.out).mono ?_
            rintro e w' ⟨rfl, hb⟩
            go_simp
            exact hK _ _ rfl (below2 hS hb) hb _ rfl rfl
          · -- 32: Op.binOp BinOp.add 9 (Operand.tmp 46) (Operand.tmp 52) 9
            intro l hl vs W hS hR hp
            obtain rfl : l = [(0, 21), (1, 22), (2, 23), (3, 24), (4, 25), (5, 26), (6, 27), (7, 28), (8, 29), (9, 30), (10, 31), (11, 32), (12, 33), (13, 34), (14, 35), (15, 36), (16, 37), (17, 38), (18, 39), (19, 40), (20, 41), (21, 42), (22, 43), (23, 44), (24, 45), (25, 46), (26, 47), (27, 48), (28, 49), (29, 50), (30, 51), (31, 52)] := hl.symm.trans (by kernel_rfl)
            have p25 : vs 25 = _ := hp 25 (by decide) (by decide)
            have p31 : vs 31 = _ := hp 31 (by decide) (by decide)
            clear hp hl
            refine opgoal (_) (some 53) rfl rfl fun K hK => ?_
            refine Runs.mk ?_
            simp only [putAll]
            go_simp
            refine hK _ _ ?_ hS ((fun w => Below.refl _ w) W) _ rfl rfl
            first | rfl | go_simp | simp
          · -- 33: Op.assign (Operand.tmp 53)
            intro l hl vs W hS hR hp
            obtain rfl : l = [(0, 21), (1, 22), (2, 23), (3, 24), (4, 25), (5, 26), (6, 27), (7, 28), (8, 29), (9, 30), (10, 31), (11, 32), (12, 33), (13, 34), (14, 35), (15, 36), (16, 37), (17, 38), (18, 39), (19, 40), (20, 41), (21, 42), (22, 43), (23, 44), (24, 45), (25, 46), (26, 47), (27, 48), (28, 49), (29, 50), (30, 51), (31, 52), (32, 53)] := hl.symm.trans (by kernel_rfl)
            have p32 : vs 32 = _ := hp 32 (by decide) (by decide)
            clear hp hl
            refine opgoal (_) (some 3) rfl rfl fun K hK => ?_
            refine Runs.mk ?_
            simp only [putAll]
            go_simp
            refine hK _ _ ?_ hS ((fun w => Below.refl _ w) W) _ rfl rfl
            first | rfl | go_simp | simp
        · intro l hl vs W hS hR hp
          obtain rfl : l = [(0, 21), (1, 22), (2, 23), (3, 24), (4, 25), (5, 26), (6, 27), (7, 28), (8, 29), (9, 30), (10, 31), (11, 32), (12, 33), (13, 34), (14, 35), (15, 36), (16, 37), (17, 38), (18, 39), (19, 40), (20, 41), (21, 42), (22, 43), (23, 44), (24, 45), (25, 46), (26, 47), (27, 48), (28, 49), (29, 50), (30, 51), (31, 52), (32, 53), (33, 3)] := hl.symm.trans (by kernel_rfl)
          have p0 : vs 0 = _ := hp 0 (by decide) (by decide)
          have p1 : vs 1 = _ := hp 1 (by decide) (by decide)
          have p2 : vs 2 = _ := hp 2 (by decide) (by decide)
          have p3 : vs 3 = _ := hp 3 (by decide) (by decide)
          have p4 : vs 4 = _ := hp 4 (by decide) (by decide)
          have p5 : vs 5 = _ := hp 5 (by decide) (by decide)
          have p6 : vs 6 = _ := hp 6 (by decide) (by decide)
          have p7 : vs 7 = _ := hp 7 (by decide) (by decide)
          have p8 : vs 8 = _ := hp 8 (by decide) (by decide)
          have p9 : vs 9 = _ := hp 9 (by decide) (by decide)
          have p10 : vs 10 = _ := hp 10 (by decide) (by decide)
          have p11 : vs 11 = _ := hp 11 (by decide) (by decide)
          have p12 : vs 12 = _ := hp 12 (by decide) (by decide)
          have p13 : vs 13 = _ := hp 13 (by decide) (by decide)
          have p14 : vs 14 = _ := hp 14 (by decide) (by decide)
          have p15 : vs 15 = _ := hp 15 (by decide) (by decide)
          have p16 : vs 16 = _ := hp 16 (by decide) (by decide)
          have p17 : vs 17 = _ := hp 17 (by decide) (by decide)
          have p18 : vs 18 = _ := hp 18 (by decide) (by decide)
          have p19 : vs 19 = _ := hp 19 (by decide) (by decide)
          have p20 : vs 20 = _ := hp 20 (by decide) (by decide)
          have p21 : vs 21 = _ := hp 21 (by decide) (by decide)
          have p22 : vs 22 = _ := hp 22 (by decide) (by decide)
          have p23 : vs 23 = _ := hp 23 (by decide) (by decide)
          have p24 : vs 24 = _ := hp 24 (by decide) (by decide)
          have p25 : vs 25 = _ := hp 25 (by decide) (by decide)
          have p26 : vs 26 = _ := hp 26 (by decide) (by decide)
          have p27 : vs 27 = _ := hp 27 (by decide) (by decide)
          have p28 : vs 28 = _ := hp 28 (by decide) (by decide)
          have p29 : vs 29 = _ := hp 29 (by decide) (by decide)
          have p30 : vs 30 = _ := hp 30 (by decide) (by decide)
          have p31 : vs 31 = _ := hp 31 (by decide) (by decide)
          have p32 : vs 32 = _ := hp 32 (by decide) (by decide)
          have p33 : vs 33 = _ := hp 33 (by decide) (by decide)
          clear hp hl
          simp only [putAll_mk, setAll, List.setIfInBounds_toArray, List.set_cons_succ, List.set_cons_zero, p0, p1, p2, p3, p4, p5, p6, p7, p8, p9, p10, p11, p12, p13, p14, p15, p16, p17, p18, p19, p20, p21, p22, p23, p24, p25, p26, p27, p28, p29, p30, p31, p32, p33]
          have HS := Lib.hid (below2 hb.out hS)
          clear hS hR hS0
          go_wp2
          go_roundw
          case rel => exact ⟨k + 1, by omega, by rw [hnext.out], by go_num, HS.out⟩
          case measure => simp [intOf]; omega
      case true =>
        have HYW : Hid ((⟨(bigB 1 1).toArray⟩ : ByteArray) = yw) := Lib.hid hyw.out
        go_wp2_with fail
        refine wp_region_one (fun W => Below wr.heap.size wr W) (fun u v => Below u.heap.size u v) (fun a i => match i with
            | 0 => (fun v _ => v = .string y0)
            | 1 => (fun v _ => v = .slice (some ⟨ab, ao, none⟩) n c)
            | 2 => (fun v _ => v = .int .i64 (k : Nat))
            | 3 => (fun v _ => v = .pointer (some ⟨ab, ao + k * 5, none⟩))
            | 4 => (fun v _ => v = .pointer (some ⟨ab, ao + k * 5, none⟩))
            | 5 => (fun v _ => v = .int .i64 xc)
            | 6 => (fun v _ => v = .string yc)
            | 7 => (fun v _ => v = .string (y0 ++ yc))
            | 8 => (fun v _ => v = .slice (some ⟨ab, ao, none⟩) n c)
            | 9 => (fun v _ => v = .int .i64 (k : Nat))
            | 10 => (fun v _ => v = .pointer (some ⟨ab, ao + k * 5, none⟩))
            | 11 => (fun v _ => v = .pointer (some ⟨ab, ao + k * 5 + 1, none⟩))
            | 12 => (fun v _ => v = .int .i64 xv)
            | 13 => (fun v _ => v = .string yv)
            | 14 => (fun v _ => v = .string (y0 ++ yc ++ yv))
            | 15 => (fun v _ => v = .slice (some ⟨ab, ao, none⟩) n c)
            | 16 => (fun v _ => v = .int .i64 (k : Nat))
            | 17 => (fun v _ => v = .pointer (some ⟨ab, ao + k * 5, none⟩))
            | 18 => (fun v _ => v = .pointer (some ⟨ab, ao + k * 5 + 2, none⟩))
            | 19 => (fun v _ => v = .int .i64 xl)
            | 20 => (fun v _ => v = .string yl)
            | 21 => (fun v _ => v = .string (y0 ++ yc ++ yv ++ yl))
            | 22 => (fun v _ => v = .int .i64 1)
            | 23 => (fun v _ => v = .int .u64 1)
            | 24 => (fun v _ => v = .string yw)
            | 25 => (fun v _ => v = .string (y0 ++ yc ++ yv ++ yl ++ yw))
            | 26 => (fun v _ => v = .slice (some ⟨ab, ao, none⟩) n c)
            | 27 => (fun v _ => v = .int .i64 (k : Nat))
            | 28 => (fun v _ => v = .pointer (some ⟨ab, ao + k * 5, none⟩))
            | 29 => (fun v _ => v = .pointer (some ⟨ab, ao + k * 5 + 4, none⟩))
            | 30 => (fun v _ => v = .int .i64 xn)
            | 31 => (fun v _ => v = .string yn)
            | 32 => (fun v _ => v = .string (y0 ++ yc ++ yv ++ yl ++ yw ++ yn))
            | 33 => (fun v _ => v = .string (y0 ++ yc ++ yv ++ yl ++ yw ++ yn))
            | _ => (fun _ _ => True)) #[0, 0, 0, 6, 14, 30, 62, 127, 0, 0, 768, 1792, 3840, 8062, 16383, 0, 0, 98304, 229376, 491520, 1032062, 2097151, 0, 4194304, 14663550, 33554431, 0, 0, 201326592, 469762048, 1006632960, 2111815550, 4294967295, 8589934591] #[0, 0, 0, 6, 8, 16, 32, 65, 0, 0, 768, 1024, 2048, 4096, 8320, 0, 0, 98304, 131072, 262144, 524288, 1064960, 0, 4194304, 8388608, 18874368, 0, 0, 201326592, 268435456, 536870912, 1073741824, 2181038080, 4294967296] 17179869183 (by kernel_rfl) 34 rfl (fun m hm => by subst hm; kernel_rfl) (by kernel_rfl) (fun w => Below.refl _ w) (fun u v w h1 h2 => below2 h1 h2) ?_ (hS0) ?_ ?_
        · intro i hi
          rcases (by omega : i = 0 ∨ i = 1 ∨ i = 2 ∨ i = 3 ∨ i = 4 ∨ i = 5 ∨ i = 6 ∨ i = 7 ∨ i = 8 ∨ i = 9 ∨ i = 10 ∨ i = 11 ∨ i = 12 ∨ i = 13 ∨ i = 14 ∨ i = 15 ∨ i = 16 ∨ i = 17 ∨ i = 18 ∨ i = 19 ∨ i = 20 ∨ i = 21 ∨ i = 22 ∨ i = 23 ∨ i = 24 ∨ i = 25 ∨ i = 26 ∨ i = 27 ∨ i = 28 ∨ i = 29 ∨ i = 30 ∨ i = 31 ∨ i = 32 ∨ i = 33) with rfl | rfl | rfl | rfl | rfl | rfl | rfl | rfl | rfl | rfl | rfl | rfl | rfl | rfl | rfl | rfl | rfl | rfl | rfl | rfl | rfl | rfl | rfl | rfl | rfl | rfl | rfl | rfl | rfl | rfl | rfl | rfl | rfl | rfl
          · exact fun v w w' h hr => by exact h
          · exact fun v w w' h hr => by exact h
          · exact fun v w w' h hr => by exact h
          · exact fun v w w' h hr => by exact h
          · exact fun v w w' h hr => by exact h
          · exact fun v w w' h hr => by exact h
          · exact fun v w w' h hr => by exact h
          · exact fun v w w' h hr => by exact h
          · exact fun v w w' h hr => by exact h
          · exact fun v w w' h hr => by exact h
          · exact fun v w w' h hr => by exact h
          · exact fun v w w' h hr => by exact h
          · exact fun v w w' h hr => by exact h
          · exact fun v w w' h hr => by exact h
          · exact fun v w w' h hr => by exact h
          · exact fun v w w' h hr => by exact h
          · exact fun v w w' h hr => by exact h
          · exact fun v w w' h hr => by exact h
          · exact fun v w w' h hr => by exact h
          · exact fun v w w' h hr => by exact h
          · exact fun v w w' h hr => by exact h
          · exact fun v w w' h hr => by exact h
          · exact fun v w w' h hr => by exact h
          · exact fun v w w' h hr => by exact h
          · exact fun v w w' h hr => by exact h
          · exact fun v w w' h hr => by exact h
          · exact fun v w w' h hr => by exact h
          · exact fun v w w' h hr => by exact h
          · exact fun v w w' h hr => by exact h
          · exact fun v w w' h hr => by exact h
          · exact fun v w w' h hr => by exact h
          · exact fun v w w' h hr => by exact h
          · exact fun v w w' h hr => by exact h
          · exact fun v w w' h hr => by exact h
        · intro i hi
          rcases (by omega : i = 0 ∨ i = 1 ∨ i = 2 ∨ i = 3 ∨ i = 4 ∨ i = 5 ∨ i = 6 ∨ i = 7 ∨ i = 8 ∨ i = 9 ∨ i = 10 ∨ i = 11 ∨ i = 12 ∨ i = 13 ∨ i = 14 ∨ i = 15 ∨ i = 16 ∨ i = 17 ∨ i = 18 ∨ i = 19 ∨ i = 20 ∨ i = 21 ∨ i = 22 ∨ i = 23 ∨ i = 24 ∨ i = 25 ∨ i = 26 ∨ i = 27 ∨ i = 28 ∨ i = 29 ∨ i = 30 ∨ i = 31 ∨ i = 32 ∨ i = 33) with rfl | rfl | rfl | rfl | rfl | rfl | rfl | rfl | rfl | rfl | rfl | rfl | rfl | rfl | rfl | rfl | rfl | rfl | rfl | rfl | rfl | rfl | rfl | rfl | rfl | rfl | rfl | rfl | rfl | rfl | rfl | rfl | rfl | rfl
          · -- 0: Op.move (Operand.tmp 3)
            intro l hl vs W hS hR hp
            obtain rfl : l = [] := hl.symm.trans (by kernel_rfl)
            clear hp hl
            refine opgoal (_) (some 21) rfl rfl fun K hK => ?_
            refine Runs.mk ?_
            simp only [putAll]
            go_simp
            refine hK _ _ ?_ hS ((fun w => Below.refl _ w) W) _ rfl rfl
            first | rfl | go_simp | simp
          · -- 1: Op.move (Operand.tmp 0)
            intro l hl vs W hS hR hp
            obtain rfl : l = [] := hl.symm.trans (by kernel_rfl)
            clear hp hl
            refine opgoal (_) (some 22) rfl rfl fun K hK => ?_
            refine Runs.mk ?_
            simp only [putAll]
            go_simp
            refine hK _ _ ?_ hS ((fun w => Below.refl _ w) W) _ rfl rfl
            first | rfl | go_simp | simp
          · -- 2: Op.move (Operand.tmp 4)
            intro l hl vs W hS hR hp
            obtain rfl : l = [] := hl.symm.trans (by kernel_rfl)
            clear hp hl
            refine opgoal (_) (some 23) rfl rfl fun K hK => ?_
            refine Runs.mk ?_
            simp only [putAll]
            go_simp
            refine hK _ _ ?_ hS ((fun w => Below.refl _ w) W) _ rfl rfl
            first | rfl | go_simp | simp
          · -- 3: Op.indexAddr 54 (Operand.tmp 22) (Operand.tmp 23)
            intro l hl vs W hS hR hp
            obtain rfl : l = [(1, 22), (2, 23)] := hl.symm.trans (by kernel_rfl)
            have p1 : vs 1 = _ := hp 1 (by decide) (by decide)
            have p2 : vs 2 = _ := hp 2 (by decide) (by decide)
            clear hp hl
            refine opgoal (_) (some 24) rfl rfl fun K hK => ?_
            refine Runs.mk ?_
            simp only [putAll]
            go_simp
            refine hK _ _ ?_ hS ((fun w => Below.refl _ w) W) _ rfl rfl
            first | rfl | go_simp | simp
          · -- 4: Op.fieldAddr 86 (Operand.tmp 24) 0
            intro l hl vs W hS hR hp
            obtain rfl : l = [(1, 22), (2, 23), (3, 24)] := hl.symm.trans (by kernel_rfl)
            have p3 : vs 3 = _ := hp 3 (by decide) (by decide)
            clear hp hl
            refine opgoal (_) (some 25) rfl rfl fun K hK => ?_
            refine Runs.mk ?_
            simp only [putAll]
            go_simp
            refine hK _ _ ?_ hS ((fun w => Below.refl _ w) W) _ rfl rfl
            first | rfl | go_simp | simp
          · -- 5: Op.load 3 (Operand.tmp 25)
            intro l hl vs W hS hR hp
            obtain rfl : l = [(1, 22), (2, 23), (3, 24), (4, 25)] := hl.symm.trans (by kernel_rfl)
            have p4 : vs 4 = _ := hp 4 (by decide) (by decide)
            clear hp hl
            refine opgoal (_) (some 26) rfl rfl fun K hK => ?_
            have fc := cell_below hS C0.out
            refine Runs.mk ?_
            simp only [putAll]
            go_simp
            refine hK _ _ ?_ hS ((fun w => Below.refl _ w) W) _ rfl rfl
            first | rfl | go_simp | simp
          · -- 6: Op.call { callee := Callee.value (Operand.func 93), args := #[Operand.tmp 26], argTypes := #[3] }
            intro l hl vs W hS hR hp
            obtain rfl : l = [(1, 22), (2, 23), (3, 24), (4, 25), (5, 26)] := hl.symm.trans (by kernel_rfl)
            have p5 : vs 5 = _ := hp 5 (by decide) (by decide)
            clear hp hl
            refine opgoal (_) (some 27) rfl rfl fun K hK => ?_
            refine Runs.mk ?_
            simp only [putAll]
            go_simp
            refine (num_ref xc W yc hyc.out).mono ?_
            rintro e w' ⟨rfl, hb⟩
            go_simp
            exact hK _ _ rfl (below2 hS hb) hb _ rfl rfl
          · -- 7: Op.binOp BinOp.add 9 (Operand.tmp 21) (Operand.tmp 27) 9
            intro l hl vs W hS hR hp
            obtain rfl : l = [(0, 21), (1, 22), (2, 23), (3, 24), (4, 25), (5, 26), (6, 27)] := hl.symm.trans (by kernel_rfl)
            have p0 : vs 0 = _ := hp 0 (by decide) (by decide)
            have p6 : vs 6 = _ := hp 6 (by decide) (by decide)
            clear hp hl
            refine opgoal (_) (some 28) rfl rfl fun K hK => ?_
            refine Runs.mk ?_
            simp only [putAll]
            go_simp
            refine hK _ _ ?_ hS ((fun w => Below.refl _ w) W) _ rfl rfl
            first | rfl | go_simp | simp
          · -- 8: Op.move (Operand.tmp 0)
            intro l hl vs W hS hR hp
            obtain rfl : l = [] := hl.symm.trans (by kernel_rfl)
            clear hp hl
            refine opgoal (_) (some 29) rfl rfl fun K hK => ?_
            refine Runs.mk ?_
            simp only [putAll]
            go_simp
            refine hK _ _ ?_ hS ((fun w => Below.refl _ w) W) _ rfl rfl
            first | rfl | go_simp | simp
          · -- 9: Op.move (Operand.tmp 4)
            intro l hl vs W hS hR hp
            obtain rfl : l = [] := hl.symm.trans (by kernel_rfl)
            clear hp hl
            refine opgoal (_) (some 30) rfl rfl fun K hK => ?_
            refine Runs.mk ?_
            simp only [putAll]
            go_simp
            refine hK _ _ ?_ hS ((fun w => Below.refl _ w) W) _ rfl rfl
            first | rfl | go_simp | simp
          · -- 10: Op.indexAddr 54 (Operand.tmp 29) (Operand.tmp 30)
            intro l hl vs W hS hR hp
            obtain rfl : l = [(8, 29), (9, 30)] := hl.symm.trans (by kernel_rfl)
            have p8 : vs 8 = _ := hp 8 (by decide) (by decide)
            have p9 : vs 9 = _ := hp 9 (by decide) (by decide)
            clear hp hl
            refine opgoal (_) (some 31) rfl rfl fun K hK => ?_
            refine Runs.mk ?_
            simp only [putAll]
            go_simp
            refine hK _ _ ?_ hS ((fun w => Below.refl _ w) W) _ rfl rfl
            first | rfl | go_simp | simp
          · -- 11: Op.fieldAddr 86 (Operand.tmp 31) 1
            intro l hl vs W hS hR hp
            obtain rfl : l = [(8, 29), (9, 30), (10, 31)] := hl.symm.trans (by kernel_rfl)
            have p10 : vs 10 = _ := hp 10 (by decide) (by decide)
            clear hp hl
            refine opgoal (_) (some 32) rfl rfl fun K hK => ?_
            refine Runs.mk ?_
            simp only [putAll]
            go_simp
            refine hK _ _ ?_ hS ((fun w => Below.refl _ w) W) _ rfl rfl
            first | rfl | go_simp | simp
          · -- 12: Op.load 3 (Operand.tmp 32)
            intro l hl vs W hS hR hp
            obtain rfl : l = [(8, 29), (9, 30), (10, 31), (11, 32)] := hl.symm.trans (by kernel_rfl)
            have p11 : vs 11 = _ := hp 11 (by decide) (by decide)
            clear hp hl
            refine opgoal (_) (some 33) rfl rfl fun K hK => ?_
            have fc := cell_below hS C1.out
            refine Runs.mk ?_
            simp only [putAll]
            go_simp
            refine hK _ _ ?_ hS ((fun w => Below.refl _ w) W) _ rfl rfl
            first | rfl | go_simp | simp
          · -- 13: Op.call { callee := Callee.value (Operand.func 93), args := #[Operand.tmp 33], argTypes := #[3] }
            intro l hl vs W hS hR hp
            obtain rfl : l = [(1, 22), (2, 23), (3, 24), (4, 25), (5, 26), (6, 27), (8, 29), (9, 30), (10, 31), (11, 32), (12, 33)] := hl.symm.trans (by kernel_rfl)
            have p12 : vs 12 = _ := hp 12 (by decide) (by decide)
            clear hp hl
            refine opgoal (_) (some 34) rfl rfl fun K hK => ?_
            refine Runs.mk ?_
            simp only [putAll]
            go_simp
            refine (num_ref xv W yv hyv.out).mono ?_
            rintro e w' ⟨rfl, hb⟩
            go_simp
            exact hK _ _ rfl (below2 hS hb) hb _ rfl rfl
          · -- 14: Op.binOp BinOp.add 9 (Operand.tmp 28) (Operand.tmp 34) 9
            intro l hl vs W hS hR hp
            obtain rfl : l = [(0, 21), (1, 22), (2, 23), (3, 24), (4, 25), (5, 26), (6, 27), (7, 28), (8, 29), (9, 30), (10, 31), (11, 32), (12, 33), (13, 34)] := hl.symm.trans (by kernel_rfl)
            have p7 : vs 7 = _ := hp 7 (by decide) (by decide)
            have p13 : vs 13 = _ := hp 13 (by decide) (by decide)
            clear hp hl
            refine opgoal (_) (some 35) rfl rfl fun K hK => ?_
            refine Runs.mk ?_
            simp only [putAll]
            go_simp
            refine hK _ _ ?_ hS ((fun w => Below.refl _ w) W) _ rfl rfl
            first | rfl | go_simp | simp
          · -- 15: Op.move (Operand.tmp 0)
            intro l hl vs W hS hR hp
            obtain rfl : l = [] := hl.symm.trans (by kernel_rfl)
            clear hp hl
            refine opgoal (_) (some 36) rfl rfl fun K hK => ?_
            refine Runs.mk ?_
            simp only [putAll]
            go_simp
            refine hK _ _ ?_ hS ((fun w => Below.refl _ w) W) _ rfl rfl
            first | rfl | go_simp | simp
          · -- 16: Op.move (Operand.tmp 4)
            intro l hl vs W hS hR hp
            obtain rfl : l = [] := hl.symm.trans (by kernel_rfl)
            clear hp hl
            refine opgoal (_) (some 37) rfl rfl fun K hK => ?_
            refine Runs.mk ?_
            simp only [putAll]
            go_simp
            refine hK _ _ ?_ hS ((fun w => Below.refl _ w) W) _ rfl rfl
            first | rfl | go_simp | simp
          · -- 17: Op.indexAddr 54 (Operand.tmp 36) (Operand.tmp 37)
            intro l hl vs W hS hR hp
            obtain rfl : l = [(15, 36), (16, 37)] := hl.symm.trans (by kernel_rfl)
            have p15 : vs 15 = _ := hp 15 (by decide) (by decide)
            have p16 : vs 16 = _ := hp 16 (by decide) (by decide)
            clear hp hl
            refine opgoal (_) (some 38) rfl rfl fun K hK => ?_
            refine Runs.mk ?_
            simp only [putAll]
            go_simp
            refine hK _ _ ?_ hS ((fun w => Below.refl _ w) W) _ rfl rfl
            first | rfl | go_simp | simp
          · -- 18: Op.fieldAddr 86 (Operand.tmp 38) 2
            intro l hl vs W hS hR hp
            obtain rfl : l = [(15, 36), (16, 37), (17, 38)] := hl.symm.trans (by kernel_rfl)
            have p17 : vs 17 = _ := hp 17 (by decide) (by decide)
            clear hp hl
            refine opgoal (_) (some 39) rfl rfl fun K hK => ?_
            refine Runs.mk ?_
            simp only [putAll]
            go_simp
            refine hK _ _ ?_ hS ((fun w => Below.refl _ w) W) _ rfl rfl
            first | rfl | go_simp | simp
          · -- 19: Op.load 3 (Operand.tmp 39)
            intro l hl vs W hS hR hp
            obtain rfl : l = [(15, 36), (16, 37), (17, 38), (18, 39)] := hl.symm.trans (by kernel_rfl)
            have p18 : vs 18 = _ := hp 18 (by decide) (by decide)
            clear hp hl
            refine opgoal (_) (some 40) rfl rfl fun K hK => ?_
            have fc := cell_below hS C2.out
            refine Runs.mk ?_
            simp only [putAll]
            go_simp
            refine hK _ _ ?_ hS ((fun w => Below.refl _ w) W) _ rfl rfl
            first | rfl | go_simp | simp
          · -- 20: Op.call { callee := Callee.value (Operand.func 93), args := #[Operand.tmp 40], argTypes := #[3] }
            intro l hl vs W hS hR hp
            obtain rfl : l = [(1, 22), (2, 23), (3, 24), (4, 25), (5, 26), (6, 27), (8, 29), (9, 30), (10, 31), (11, 32), (12, 33), (13, 34), (15, 36), (16, 37), (17, 38), (18, 39), (19, 40)] := hl.symm.trans (by kernel_rfl)
            have p19 : vs 19 = _ := hp 19 (by decide) (by decide)
            clear hp hl
            refine opgoal (_) (some 41) rfl rfl fun K hK => ?_
            refine Runs.mk ?_
            simp only [putAll]
            go_simp
            refine (num_ref xl W yl hyl.out).mono ?_
            rintro e w' ⟨rfl, hb⟩
            go_simp
            exact hK _ _ rfl (below2 hS hb) hb _ rfl rfl
          · -- 21: Op.binOp BinOp.add 9 (Operand.tmp 35) (Operand.tmp 41) 9
            intro l hl vs W hS hR hp
            obtain rfl : l = [(0, 21), (1, 22), (2, 23), (3, 24), (4, 25), (5, 26), (6, 27), (7, 28), (8, 29), (9, 30), (10, 31), (11, 32), (12, 33), (13, 34), (14, 35), (15, 36), (16, 37), (17, 38), (18, 39), (19, 40), (20, 41)] := hl.symm.trans (by kernel_rfl)
            have p14 : vs 14 = _ := hp 14 (by decide) (by decide)
            have p20 : vs 20 = _ := hp 20 (by decide) (by decide)
            clear hp hl
            refine opgoal (_) (some 42) rfl rfl fun K hK => ?_
            refine Runs.mk ?_
            simp only [putAll]
            go_simp
            refine hK _ _ ?_ hS ((fun w => Below.refl _ w) W) _ rfl rfl
            first | rfl | go_simp | simp
          · -- 22: Op.move (Operand.tmp 5)
            intro l hl vs W hS hR hp
            obtain rfl : l = [] := hl.symm.trans (by kernel_rfl)
            clear hp hl
            refine opgoal (_) (some 43) rfl rfl fun K hK => ?_
            refine Runs.mk ?_
            simp only [putAll]
            go_simp
            refine hK _ _ ?_ hS ((fun w => Below.refl _ w) W) _ rfl rfl
            first | rfl | go_simp | simp
          · -- 23: Op.convert 3 131 (Operand.tmp 43)
            intro l hl vs W hS hR hp
            obtain rfl : l = [(22, 43)] := hl.symm.trans (by kernel_rfl)
            have p22 : vs 22 = _ := hp 22 (by decide) (by decide)
            clear hp hl
            refine opgoal (_) (some 44) rfl rfl fun K hK => ?_
            refine Runs.mk ?_
            simp only [putAll]
            go_simp
            refine hK _ _ ?_ hS ((fun w => Below.refl _ w) W) _ rfl rfl
            first | rfl | go_simp | simp
          · -- 24: Op.call { callee := Callee.value (Operand.func 87), args := #[Operand.tmp 44, Operand.const (Value.int IntKind.i64 1)], argTypes := #[131, 3] }
            intro l hl vs W hS hR hp
            obtain rfl : l = [(1, 22), (2, 23), (3, 24), (4, 25), (5, 26), (6, 27), (8, 29), (9, 30), (10, 31), (11, 32), (12, 33), (13, 34), (15, 36), (16, 37), (17, 38), (18, 39), (19, 40), (20, 41), (22, 43), (23, 44)] := hl.symm.trans (by kernel_rfl)
            have p23 : vs 23 = _ := hp 23 (by decide) (by decide)
            clear hp hl
            refine opgoal (_) (some 45) rfl rfl fun K hK => ?_
            refine Runs.mk ?_
            simp only [putAll]
            go_simp
            refine (big_any 1 1 (by omega) (by omega) W).mono ?_
            rintro e w' ⟨he, hb⟩
            rw [HYW.out] at he
            subst he
            go_simp
            exact hK _ _ rfl (below2 hS hb) hb _ rfl rfl
          · -- 25: Op.binOp BinOp.add 9 (Operand.tmp 42) (Operand.tmp 45) 9
            intro l hl vs W hS hR hp
            obtain rfl : l = [(0, 21), (1, 22), (2, 23), (3, 24), (4, 25), (5, 26), (6, 27), (7, 28), (8, 29), (9, 30), (10, 31), (11, 32), (12, 33), (13, 34), (14, 35), (15, 36), (16, 37), (17, 38), (18, 39), (19, 40), (20, 41), (21, 42), (22, 43), (23, 44), (24, 45)] := hl.symm.trans (by kernel_rfl)
            have p21 : vs 21 = _ := hp 21 (by decide) (by decide)
            have p24 : vs 24 = _ := hp 24 (by decide) (by decide)
            clear hp hl
            refine opgoal (_) (some 46) rfl rfl fun K hK => ?_
            refine Runs.mk ?_
            simp only [putAll]
            go_simp
            refine hK _ _ ?_ hS ((fun w => Below.refl _ w) W) _ rfl rfl
            first | rfl | go_simp | simp
          · -- 26: Op.move (Operand.tmp 0)
            intro l hl vs W hS hR hp
            obtain rfl : l = [] := hl.symm.trans (by kernel_rfl)
            clear hp hl
            refine opgoal (_) (some 47) rfl rfl fun K hK => ?_
            refine Runs.mk ?_
            simp only [putAll]
            go_simp
            refine hK _ _ ?_ hS ((fun w => Below.refl _ w) W) _ rfl rfl
            first | rfl | go_simp | simp
          · -- 27: Op.move (Operand.tmp 4)
            intro l hl vs W hS hR hp
            obtain rfl : l = [] := hl.symm.trans (by kernel_rfl)
            clear hp hl
            refine opgoal (_) (some 48) rfl rfl fun K hK => ?_
            refine Runs.mk ?_
            simp only [putAll]
            go_simp
            refine hK _ _ ?_ hS ((fun w => Below.refl _ w) W) _ rfl rfl
            first | rfl | go_simp | simp
          · -- 28: Op.indexAddr 54 (Operand.tmp 47) (Operand.tmp 48)
            intro l hl vs W hS hR hp
            obtain rfl : l = [(26, 47), (27, 48)] := hl.symm.trans (by kernel_rfl)
            have p26 : vs 26 = _ := hp 26 (by decide) (by decide)
            have p27 : vs 27 = _ := hp 27 (by decide) (by decide)
            clear hp hl
            refine opgoal (_) (some 49) rfl rfl fun K hK => ?_
            refine Runs.mk ?_
            simp only [putAll]
            go_simp
            refine hK _ _ ?_ hS ((fun w => Below.refl _ w) W) _ rfl rfl
            first | rfl | go_simp | simp
          · -- 29: Op.fieldAddr 86 (Operand.tmp 49) 4
            intro l hl vs W hS hR hp
            obtain rfl : l = [(26, 47), (27, 48), (28, 49)] := hl.symm.trans (by kernel_rfl)
            have p28 : vs 28 = _ := hp 28 (by decide) (by decide)
            clear hp hl
            refine opgoal (_) (some 50) rfl rfl fun K hK => ?_
            refine Runs.mk ?_
            simp only [putAll]
            go_simp
            refine hK _ _ ?_ hS ((fun w => Below.refl _ w) W) _ rfl rfl
            first | rfl | go_simp | simp
          · -- 30: Op.load 3 (Operand.tmp 50)
            intro l hl vs W hS hR hp
            obtain rfl : l = [(26, 47), (27, 48), (28, 49), (29, 50)] := hl.symm.trans (by kernel_rfl)
            have p29 : vs 29 = _ := hp 29 (by decide) (by decide)
            clear hp hl
            refine opgoal (_) (some 51) rfl rfl fun K hK => ?_
            have fc := cell_below hS C4.out
            refine Runs.mk ?_
            simp only [putAll]
            go_simp
            refine hK _ _ ?_ hS ((fun w => Below.refl _ w) W) _ rfl rfl
            first | rfl | go_simp | simp
          · -- 31: Op.call { callee := Callee.value (Operand.func 93), args := #[Operand.tmp 51], argTypes := #[3] }
            intro l hl vs W hS hR hp
            obtain rfl : l = [(1, 22), (2, 23), (3, 24), (4, 25), (5, 26), (6, 27), (8, 29), (9, 30), (10, 31), (11, 32), (12, 33), (13, 34), (15, 36), (16, 37), (17, 38), (18, 39), (19, 40), (20, 41), (22, 43), (23, 44), (24, 45), (26, 47), (27, 48), (28, 49), (29, 50), (30, 51)] := hl.symm.trans (by kernel_rfl)
            have p30 : vs 30 = _ := hp 30 (by decide) (by decide)
            clear hp hl
            refine opgoal (_) (some 52) rfl rfl fun K hK => ?_
            refine Runs.mk ?_
            simp only [putAll]
            go_simp
            refine (num_ref xn W yn hyn.out).mono ?_
            rintro e w' ⟨rfl, hb⟩
            go_simp
            exact hK _ _ rfl (below2 hS hb) hb _ rfl rfl
          · -- 32: Op.binOp BinOp.add 9 (Operand.tmp 46) (Operand.tmp 52) 9
            intro l hl vs W hS hR hp
            obtain rfl : l = [(0, 21), (1, 22), (2, 23), (3, 24), (4, 25), (5, 26), (6, 27), (7, 28), (8, 29), (9, 30), (10, 31), (11, 32), (12, 33), (13, 34), (14, 35), (15, 36), (16, 37), (17, 38), (18, 39), (19, 40), (20, 41), (21, 42), (22, 43), (23, 44), (24, 45), (25, 46), (26, 47), (27, 48), (28, 49), (29, 50), (30, 51), (31, 52)] := hl.symm.trans (by kernel_rfl)
            have p25 : vs 25 = _ := hp 25 (by decide) (by decide)
            have p31 : vs 31 = _ := hp 31 (by decide) (by decide)
            clear hp hl
            refine opgoal (_) (some 53) rfl rfl fun K hK => ?_
            refine Runs.mk ?_
            simp only [putAll]
            go_simp
            refine hK _ _ ?_ hS ((fun w => Below.refl _ w) W) _ rfl rfl
            first | rfl | go_simp | simp
          · -- 33: Op.assign (Operand.tmp 53)
            intro l hl vs W hS hR hp
            obtain rfl : l = [(0, 21), (1, 22), (2, 23), (3, 24), (4, 25), (5, 26), (6, 27), (7, 28), (8, 29), (9, 30), (10, 31), (11, 32), (12, 33), (13, 34), (14, 35), (15, 36), (16, 37), (17, 38), (18, 39), (19, 40), (20, 41), (21, 42), (22, 43), (23, 44), (24, 45), (25, 46), (26, 47), (27, 48), (28, 49), (29, 50), (30, 51), (31, 52), (32, 53)] := hl.symm.trans (by kernel_rfl)
            have p32 : vs 32 = _ := hp 32 (by decide) (by decide)
            clear hp hl
            refine opgoal (_) (some 3) rfl rfl fun K hK => ?_
            refine Runs.mk ?_
            simp only [putAll]
            go_simp
            refine hK _ _ ?_ hS ((fun w => Below.refl _ w) W) _ rfl rfl
            first | rfl | go_simp | simp
        · intro l hl vs W hS hR hp
          obtain rfl : l = [(0, 21), (1, 22), (2, 23), (3, 24), (4, 25), (5, 26), (6, 27), (7, 28), (8, 29), (9, 30), (10, 31), (11, 32), (12, 33), (13, 34), (14, 35), (15, 36), (16, 37), (17, 38), (18, 39), (19, 40), (20, 41), (21, 42), (22, 43), (23, 44), (24, 45), (25, 46), (26, 47), (27, 48), (28, 49), (29, 50), (30, 51), (31, 52), (32, 53), (33, 3)] := hl.symm.trans (by kernel_rfl)
          have p0 : vs 0 = _ := hp 0 (by decide) (by decide)
          have p1 : vs 1 = _ := hp 1 (by decide) (by decide)
          have p2 : vs 2 = _ := hp 2 (by decide) (by decide)
          have p3 : vs 3 = _ := hp 3 (by decide) (by decide)
          have p4 : vs 4 = _ := hp 4 (by decide) (by decide)
          have p5 : vs 5 = _ := hp 5 (by decide) (by decide)
          have p6 : vs 6 = _ := hp 6 (by decide) (by decide)
          have p7 : vs 7 = _ := hp 7 (by decide) (by decide)
          have p8 : vs 8 = _ := hp 8 (by decide) (by decide)
          have p9 : vs 9 = _ := hp 9 (by decide) (by decide)
          have p10 : vs 10 = _ := hp 10 (by decide) (by decide)
          have p11 : vs 11 = _ := hp 11 (by decide) (by decide)
          have p12 : vs 12 = _ := hp 12 (by decide) (by decide)
          have p13 : vs 13 = _ := hp 13 (by decide) (by decide)
          have p14 : vs 14 = _ := hp 14 (by decide) (by decide)
          have p15 : vs 15 = _ := hp 15 (by decide) (by decide)
          have p16 : vs 16 = _ := hp 16 (by decide) (by decide)
          have p17 : vs 17 = _ := hp 17 (by decide) (by decide)
          have p18 : vs 18 = _ := hp 18 (by decide) (by decide)
          have p19 : vs 19 = _ := hp 19 (by decide) (by decide)
          have p20 : vs 20 = _ := hp 20 (by decide) (by decide)
          have p21 : vs 21 = _ := hp 21 (by decide) (by decide)
          have p22 : vs 22 = _ := hp 22 (by decide) (by decide)
          have p23 : vs 23 = _ := hp 23 (by decide) (by decide)
          have p24 : vs 24 = _ := hp 24 (by decide) (by decide)
          have p25 : vs 25 = _ := hp 25 (by decide) (by decide)
          have p26 : vs 26 = _ := hp 26 (by decide) (by decide)
          have p27 : vs 27 = _ := hp 27 (by decide) (by decide)
          have p28 : vs 28 = _ := hp 28 (by decide) (by decide)
          have p29 : vs 29 = _ := hp 29 (by decide) (by decide)
          have p30 : vs 30 = _ := hp 30 (by decide) (by decide)
          have p31 : vs 31 = _ := hp 31 (by decide) (by decide)
          have p32 : vs 32 = _ := hp 32 (by decide) (by decide)
          have p33 : vs 33 = _ := hp 33 (by decide) (by decide)
          clear hp hl
          simp only [putAll_mk, setAll, List.setIfInBounds_toArray, List.set_cons_succ, List.set_cons_zero, p0, p1, p2, p3, p4, p5, p6, p7, p8, p9, p10, p11, p12, p13, p14, p15, p16, p17, p18, p19, p20, p21, p22, p23, p24, p25, p26, p27, p28, p29, p30, p31, p32, p33]
          have HS := Lib.hid (below2 hb.out hS)
          clear hS hR hS0
          go_wp2
          go_roundw
          case rel => exact ⟨k + 1, by omega, by rw [hnext.out], by go_num, HS.out⟩
          case measure => simp [intOf]; omega
    · have hkn : n = k := by omega
      have hres : Hid (str (bigB n 2 ++ itemsB (l.take k)) = str (bigB n 2 ++ itemsB l)) := Lib.hid (by rw [List.take_of_length_le (by have := HN.out; omega)])
      rw [hres.out]
      clear hb0
      go_wp2
      go_ret
      exact ⟨rfl, hb.out⟩
end Go.Proofs.Ytfpocddpnoighaa.It

/- item: are lists alike? The reader: how many, nodes. -/
namespace Go.Proofs.Ytfpocddpnoighaa.It
open Go.RowKit Go.Proofs.Ytfpocddpnoighaa.L Go.Proofs.Ytfpocddpnoighaa.O Go.Proofs.Ytfpocddpnoighaa.A Go.Proofs.Ytfpocddpnoighaa.R Go.Proofs.Ytfpocddpnoighaa.S Go.Proofs.Ytfpocddpnoighaa.T Go.Proofs.Ytfpocddpnoighaa.E Go.Proofs.Ytfpocddpnoighaa.Wr Go.Proofs.Ytfpocddpnoighaa.F
set_option linter.unusedVariables false
set_option linter.unusedSimpArgs false

theorem it_eq' (d : Nat) (c v l : Int) (wr : Bool) (n : Int) (w : World) : (Op.equalIn (d + 4) 86 (.agg #[.int .i64 c, .int .i64 v, .int .i64 l, .bool wr, .int .i64 n]) (.agg #[.int .i64 c, .int .i64 v, .int .i64 l, .bool wr, .int .i64 n])).run Try.prog w = .ok true w := by
  have hp : Try.prog.stoodInHeld 86 = false := by kernel_rfl
  have hf : Try.prog.underlying 86 = some (.struct (Try.prog.fieldsOf 86)) := by kernel_rfl
  rw [run_equalIn_agg w _ _ _ _ hf hp]
  clear hf hp
  go_simp
theorem it_eq (c v l : Int) (wr : Bool) (n : Int) (w : World) : (Op.equalIn 10000 86 (.agg #[.int .i64 c, .int .i64 v, .int .i64 l, .bool wr, .int .i64 n]) (.agg #[.int .i64 c, .int .i64 v, .int .i64 l, .bool wr, .int .i64 n])).run Try.prog w = .ok true w := it_eq' 9996 c v l wr n w
theorem it_guard : Try.prog.eqGuardType Try.prog.depth 86 = false := by kernel_rfl
set_option maxHeartbeats 4000000 in
set_option maxRecDepth 100000 in
theorem same_items (A A' : Option Addr) (n c c' : Nat) (l : List Im) (w : World) (h : Ims w A n l) (h' : Ims w A' n l) : Calls Try.prog 50 #[.slice A n c, .slice A' n c'] w fun e w' => e = .returned (.bool true) ∧ Below w.heap.size w w' := by
  have hn9 := h.rd.2.1
  have H := Lib.hid h
  have H' := Lib.hid h'
  have HN := Lib.hid h.len
  have hg := it_guard
  clear h h'
  go_enter Try.func50, Try.ntmps50
  go_wp2
  go_loopw [5] (fun i wr => ∃ k : Nat, k ≤ n ∧ i = .int .i64 k ∧ Below w.heap.size w wr) (fun i _ => n - (intOf i).toNat)
  case atStart => exact ⟨0, by omega, rfl, Below.refl _ _⟩
  case round =>
    obtain ⟨k, hk, rfl, hb⟩ := hrel
    by_cases hlt : k < n
    · have hkl : k < l.length := by have := HN.out; omega
      obtain ⟨x, hx⟩ : ∃ x, Hid (l[k] = x) := ⟨_, Lib.hid rfl⟩
      obtain ⟨ab, ao, hAe, c0, c1, c2, c3, c4⟩ := (H.out.below hb).at k hlt hkl x hx.out
      obtain ⟨ab2, ao2, hAe2, d0, d1, d2, d3, d4⟩ := (H'.out.below hb).at k hlt hkl x hx.out
      subst hAe
      subst hAe2
      obtain ⟨xc, xv, xl, xw, xn⟩ := x
      dsimp only at c0 c1 c2 c3 c4 d0 d1 d2 d3 d4
      have heq := it_eq xc xv xl xw xn
      have HB := Lib.hid hb
      clear hb
      go_wp2_with fail
      go_quiet (fail)
      go_wp2
      go_roundw
      case rel => exact ⟨k + 1, by omega, by go_num, below2 HB.out (below_drewN _ _)⟩
      case measure => simp [intOf]; omega
    · go_wp2
      go_ret
      exact ⟨rfl, hb⟩
set_option maxHeartbeats 4000000 in
set_option maxRecDepth 100000 in
theorem same_nodes (A A' : Option Addr) (n c c' : Nat) (xs : List Int) (w : World) (h : Rd w A n (xs.map (Value.int .i64))) (h' : Rd w A' n (xs.map (Value.int .i64))) : Calls Try.prog 51 #[.slice A n c, .slice A' n c'] w fun e w' => e = .returned (.bool true) ∧ Below w.heap.size w w' := by
  have hn9 := h.2.1
  have H := Lib.hid h
  have H' := Lib.hid h'
  have HN : Hid (xs.length = n) := Lib.hid (by simpa using h.len)
  clear h h'
  go_enter Try.func51, Try.ntmps51
  go_wp2
  go_loopw [5] (fun i wr => ∃ k : Nat, k ≤ n ∧ i = .int .i64 k ∧ Below w.heap.size w wr) (fun i _ => n - (intOf i).toNat)
  case atStart => exact ⟨0, by omega, rfl, Below.refl _ _⟩
  case round =>
    obtain ⟨k, hk, rfl, hb⟩ := hrel
    by_cases hlt : k < n
    · have hkl : k < xs.length := by have := HN.out; omega
      obtain ⟨x, hx⟩ : ∃ x, Hid (xs[k] = x) := ⟨_, Lib.hid rfl⟩
      obtain ⟨ab, ao, hAe, hc⟩ := (H.out.below hb).2.2 (by omega)
      obtain ⟨ab2, ao2, hAe2, hd⟩ := (H'.out.below hb).2.2 (by omega)
      subst hAe
      subst hAe2
      have c0 := rd_at hc hlt hkl hx.out
      have d0 := rd_at hd hlt hkl hx.out
      have HB := Lib.hid hb
      clear hb hc hd
      go_wp2_with fail
      go_quiet (fail)
      go_wp2
      go_roundw
      case rel => exact ⟨k + 1, by omega, by go_num, below2 HB.out (below_drewN _ _)⟩
      case measure => simp [intOf]; omega
    · go_wp2
      go_ret
      exact ⟨rfl, hb⟩

/-! ### the reader -/
def cnt (o : ByteArray × Bool) : Nat := numT 2 o.1 o.2
def nx2 (o : ByteArray × Bool) : ByteArray × Bool := (takeS 2 o.1 o.2, takeQ 2 o.1 o.2)
def manyV (o : ByteArray × Bool) : Nat := if cnt o ≤ 16 then cnt o else 0
def manyS (o : ByteArray × Bool) : ByteArray × Bool := if cnt o ≤ 16 then nx2 o else ((nx2 o).1, true)
theorem take_size (n : Nat) (s : ByteArray) (q : Bool) : (takeS n s q).size ≤ s.size := by
  unfold takeS
  split
  · exact Nat.le_refl _
  · rw [ByteArray.size_extract]; omega
theorem many_size (o : ByteArray × Bool) : (manyS o).1.size ≤ o.1.size := by
  unfold manyS nx2
  split <;> exact take_size _ _ _
theorem manyV_le (o : ByteArray × Bool) : manyV o ≤ 16 := by unfold manyV; split <;> omega
/-- an item.Reader and its wire.Reader. -/
structure Rst (bi b : Nat) (W : World) (o : ByteArray × Bool) : Prop where
  hbi : Ird W bi b
  rd : Rdr W b o.1 o.2
  ne : bi ≠ b
theorem Rst.step {bi b : Nat} {W W' : World} {o o' : ByteArray × Bool} (h : Rst bi b W o) (hr : Rdr W' b o'.1 o'.2) (hk : Keep [b] W W') : Rst bi b W' o' := ⟨keep_block hk h.hbi (by simpa using h.ne), hr, h.ne⟩
theorem Rst.below {bi b : Nat} {W W' : World} {o : ByteArray × Bool} (h : Rst bi b W o) (hb : Below W.heap.size W W') : Rst bi b W' o := ⟨keep_block (.of_below (S := []) hb) h.hbi (by simp), h.rd.below hb, h.ne⟩
theorem Rst.keep {S : List Nat} {bi b : Nat} {W W' : World} {o : ByteArray × Bool} (h : Rst bi b W o) (hk : Keep S W W') (h1 : bi ∉ S) (h2 : b ∉ S) : Rst bi b W' o := ⟨keep_block hk h.hbi h1, h.rd.keep hk h2, h.ne⟩
theorem Rst.grown {bi b : Nat} {W W' : World} {o : ByteArray × Bool} {r : Option Nat} (h : Rst bi b W o) (hg : W.grownBy W' r) (h1 : ∀ j, r = some j → j ≠ b) (h2 : ∀ j, r = some j → j ≠ bi) : Rst bi b W' o :=
  h.keep (keep_grown hg r.toList (fun j hj _ => by simp [hj])) (fun hm => by cases r <;> simp at hm; exact h2 _ rfl hm.symm) (fun hm => by cases r <;> simp at hm; exact h1 _ rfl hm.symm)
theorem Rst.cell {bi b : Nat} {W : World} {o : ByteArray × Bool} (h : Rst bi b W o) : W.cell? ⟨bi, 0, none⟩ = some (.pointer (some ⟨b, 0, none⟩)) := by rw [cell_of_row _ _ _ _ _ _ h.hbi]; rfl
set_option maxHeartbeats 1000000 in
theorem many_any (bi b : Nat) (o : ByteArray × Bool) (w : World) (h : Rst bi b w o) (hs : o.1.size ≤ 140737488355328) : Calls Try.prog 94 #[.pointer (some ⟨bi, 0, none⟩)] w fun e w' => e = .returned (.int .i64 (manyV o : Nat)) ∧ Rst bi b w' (manyS o) ∧ Keep [b] w w' := by
  have HC := Lib.hid (count_read b o.1 o.2 w h.rd (by omega))
  have c0 := h.cell
  obtain ⟨m, hm⟩ : ∃ m, Hid (cnt o = m) := ⟨_, Lib.hid rfl⟩
  obtain ⟨o1, ho1⟩ : ∃ o1, Hid (nx2 o = o1) := ⟨_, Lib.hid rfl⟩
  rw [show numT 2 o.1 o.2 = m from hm.out, show takeS 2 o.1 o.2 = o1.1 from by rw [← ho1.out]; rfl, show takeQ 2 o.1 o.2 = o1.2 from by rw [← ho1.out]; rfl] at HC
  have H := Lib.hid h
  clear h
  by_cases hle : m ≤ 16
  · have hV : Hid (manyV o = m) := Lib.hid (by unfold manyV; rw [hm.out, if_pos hle])
    have hSS : Hid (manyS o = o1) := Lib.hid (by unfold manyS; rw [hm.out, if_pos hle, ho1.out])
    go_enter Try.func94, Try.ntmps94
    go_wp2_with fail
    refine HC.out.mono ?_
    rintro e w1 ⟨rfl, hr1, hk1⟩
    have HR := Lib.hid (H.out.step hr1 hk1)
    have HK := Lib.hid hk1
    clear c0 hr1 hk1
    go_wp2
    go_ret
    exact ⟨by rw [hV.out]; rfl, by rw [hSS.out]; exact HR.out, HK.out⟩
  · have hV : Hid (manyV o = 0) := Lib.hid (by unfold manyV; rw [hm.out, if_neg hle])
    have hSS : Hid (manyS o = (o1.1, true)) := Lib.hid (by unfold manyS; rw [hm.out, if_neg hle, ho1.out])
    go_enter Try.func94, Try.ntmps94
    go_wp2_with fail
    refine HC.out.mono ?_
    rintro e w1 ⟨rfl, hr1, hk1⟩
    have HR := Lib.hid (H.out.step hr1 hk1)
    have HK := Lib.hid hk1
    clear c0 hr1 hk1
    have c0 := HR.out.cell
    go_wp2_with fail
    refine (break_any b o1.1 o1.2 w1 HR.out.rd).mono ?_
    rintro e w2 ⟨rfl, hr2, hk2⟩
    have HR2 := Lib.hid (HR.out.step (o' := (o1.1, true)) hr2 hk2)
    have HK2 := Lib.hid (HK.out.trans hk2)
    clear c0 hr2 hk2
    go_wp2
    go_ret
    exact ⟨by rw [hV.out]; rfl, by rw [hSS.out]; exact HR2.out, HK2.out⟩
def nodesV : Nat → ByteArray × Bool → List Int
  | 0, _ => []
  | n + 1, o => nv o :: nodesV n (nxt o)
def nxts : Nat → ByteArray × Bool → ByteArray × Bool
  | 0, o => o
  | n + 1, o => nxts n (nxt o)
theorem nodes_snoc : ∀ (k : Nat) (o : ByteArray × Bool), nodesV (k + 1) o = nodesV k o ++ [nv (nxts k o)]
  | 0, o => rfl
  | k + 1, o => by
    have h1 : nodesV (k + 1 + 1) o = nv o :: nodesV (k + 1) (nxt o) := rfl
    rw [h1, nodes_snoc k (nxt o)]; rfl
theorem nxts_snoc : ∀ (k : Nat) (o : ByteArray × Bool), nxts (k + 1) o = nxt (nxts k o)
  | 0, o => rfl
  | k + 1, o => by
    have h1 : nxts (k + 1 + 1) o = nxts (k + 1) (nxt o) := rfl
    rw [h1, nxts_snoc k (nxt o)]; rfl
theorem nxts_size : ∀ (k : Nat) (o : ByteArray × Bool), (nxts k o).1.size ≤ o.1.size
  | 0, o => Nat.le_refl _
  | k + 1, o => Nat.le_trans (nxts_size k (nxt o)) (nxt_size o)
theorem len_nodesV : ∀ (k : Nat) (o : ByteArray × Bool), (nodesV k o).length = k
  | 0, o => rfl
  | k + 1, o => by simp [nodesV, len_nodesV k (nxt o)]
set_option maxHeartbeats 4000000 in
set_option maxRecDepth 100000 in
theorem nodes_read (bi b : Nat) (o : ByteArray × Bool) (w : World) (h : Rst bi b w o) (hs : o.1.size ≤ 140737488355328) : Calls Try.prog 49 #[.pointer (some ⟨bi, 0, none⟩)] w fun e w' => ∃ v, e = .returned v ∧ w'.ownsRow w.heap.size 3 1 v (manyV o) ((nodesV (manyV o) (manyS o)).map (Value.int .i64)) ∧ Rst bi b w' (nxts (manyV o) (manyS o)) ∧ Keep [b] w w' := by
  have HC := Lib.hid (many_any bi b o w h hs)
  have hV := manyV_le o
  have hz : (manyS o).1.size ≤ 140737488355328 := Nat.le_trans (many_size o) hs
  obtain ⟨m, hm⟩ : ∃ m, Hid (manyV o = m) := ⟨_, Lib.hid rfl⟩
  obtain ⟨o1, ho1⟩ : ∃ o1, Hid (manyS o = o1) := ⟨_, Lib.hid rfl⟩
  have hbl : Hid (bi < w.heap.size ∧ b < w.heap.size) := Lib.hid ⟨(Array.getElem?_eq_some_iff.1 h.hbi).1, h.rd.lt⟩
  rw [hm.out] at HC hV ⊢
  rw [ho1.out] at HC hz ⊢
  have HZ := Lib.hid hz
  clear h hs hz
  go_enter Try.func49, Try.ntmps49
  go_wp2_with fail
  refine HC.out.mono ?_
  rintro e w1 ⟨rfl, hr1, hk1⟩
  have HR1 := Lib.hid hr1
  have HK1 := Lib.hid hk1
  clear hr1 hk1 HC
  go_wp2
  go_loopw [3, 6] (fun v i wr => ∃ k : Nat, k ≤ m ∧ i = .int .i64 k ∧ wr.ownsRow w.heap.size 3 1 v k ((nodesV k o1).map (Value.int .i64)) ∧ Rst bi b wr (nxts k o1) ∧ Keep [b] w wr) (fun _ i _ => m - (intOf i).toNat)
  case atStart => exact ⟨0, by omega, rfl, World.ownsRow_nil _ _ _ _, HR1.out, HK1.out⟩
  case round =>
    obtain ⟨k, hk, rfl, ho, hr, hkp⟩ := hrel
    by_cases hlt : k < m
    · obtain ⟨ok, hok⟩ : ∃ x, Hid (nxts k o1 = x) := ⟨_, Lib.hid rfl⟩
      obtain ⟨xs, hxs⟩ : ∃ x, Hid ((nodesV k o1).map (Value.int .i64) = x) := ⟨_, Lib.hid rfl⟩
      obtain ⟨x, hx⟩ : ∃ x, Hid (nv ok = x) := ⟨_, Lib.hid rfl⟩
      obtain ⟨o2, ho2⟩ : ∃ x, Hid (nxt ok = x) := ⟨_, Lib.hid rfl⟩
      have hzk : ok.1.size ≤ 9223372036854775807 := by
        have h1 := nxts_size k o1
        rw [hok.out] at h1
        have := HZ.out
        omega
      have hx1 : Hid ((nodesV (k + 1) o1).map (Value.int .i64) = xs ++ [.int .i64 x]) := Lib.hid (by rw [nodes_snoc, List.map_append, hxs.out, hok.out, ← hx.out]; rfl)
      have hx2 : Hid (nxts (k + 1) o1 = o2) := Lib.hid (by rw [nxts_snoc, hok.out, ho2.out])
      rw [hxs.out] at ho
      rw [hok.out] at hr
      have HN := Lib.hid (num_read b ok.1 ok.2 wr hr.rd hzk)
      rw [show wrap64 (numT 8 ok.1 ok.2 : Nat) = x from hx.out, show takeS 8 ok.1 ok.2 = o2.1 from by rw [← ho2.out]; rfl, show takeQ 8 ok.1 ok.2 = o2.2 from by rw [← ho2.out]; rfl] at HN
      have c0 := hr.cell
      have HO := Lib.hid ho
      have HR := Lib.hid hr
      have HK := Lib.hid hkp
      have hnb : Hid (∀ j, u3.ownBlock = some j → j ≠ b ∧ j ≠ bi) := Lib.hid (fun j hj => by have := (own_lt ho j hj).1; have := hbl.out; exact ⟨by omega, by omega⟩)
      clear ho hr hkp hzk
      go_wp2_with fail
      refine HN.out.mono ?_
      rintro e w2 ⟨rfl, hr2, hk2⟩
      have HR2 := Lib.hid (HR.out.step hr2 hk2)
      have HO2 := Lib.hid (own_keep HO.out hk2 (fun j hj => by simpa using (hnb.out j hj).1))
      have HK2 := Lib.hid (HK.out.trans hk2)
      have hbs : w.heap.size ≤ (w2.alloc (.cells #[.int .i64 x] 3)).heap.size := by have := HK2.out.size; simp; omega
      clear c0 hr2 hk2
      go_wp2_with (at_builtin; refine wpList_append_src _ rfl (.tmp 8) (.tmp 14) w.heap.size 55 3 (.int .i64 0) 1 8 rfl (by kernel_rfl) (by kernel_rfl) rfl (by decide) (by decide) _ k _ rfl (HO2.out.alloc _) (some ⟨w2.heap.size, 0, none⟩) 1 1 rfl (fun h => by cases h) [.int .i64 x] rfl (lies_block (heap_alloc_new _ _)) (by simp [Value.oneCell']) (by omega) hbs ?_; intro v1 w3 hw1 hg1 hv1)
      have HR3 := Lib.hid ((HR2.out.below (below_alloc _ _)).grown hg1 (fun j hj => (hnb.out j hj).1) (fun j hj => (hnb.out j hj).2))
      have HK3 : Hid (Keep [b] w w3) := Lib.hid (by
        have hk := HK2.out.trans (.of_below (below_alloc w2 (.cells #[.int .i64 x] 3)))
        refine ⟨hg1.os.trans hk.os, hg1.tape.trans hk.tape, hg1.output.trans hk.output, Nat.le_trans hk.size hg1.size, fun j hj hjn => ?_⟩
        exact (hg1.block j (Nat.lt_of_lt_of_le hj hk.size) (fun e => by have := (own_lt HO2.out j (show u3.ownBlock = some j from e.symm)).1; omega)).trans (hk.block j hj hjn))
      have HW := Lib.hid hw1
      clear hw1 hg1 hv1 hbs
      go_roundw
      case rel => exact ⟨k + 1, by omega, by go_num, by rw [hx1.out]; exact HW.out, by rw [hx2.out]; exact HR3.out, HK3.out⟩
      case measure => simp [intOf]; omega
    · obtain rfl : m = k := by omega
      go_wp2
      go_ret
      exact ⟨_, rfl, ho, hr, hkp⟩
end Go.Proofs.Ytfpocddpnoighaa.It

/- item: the reader: items. -/
namespace Go.Proofs.Ytfpocddpnoighaa.It
open Go.RowKit Go.Proofs.Ytfpocddpnoighaa.L Go.Proofs.Ytfpocddpnoighaa.O Go.Proofs.Ytfpocddpnoighaa.A Go.Proofs.Ytfpocddpnoighaa.R Go.Proofs.Ytfpocddpnoighaa.S Go.Proofs.Ytfpocddpnoighaa.T Go.Proofs.Ytfpocddpnoighaa.E Go.Proofs.Ytfpocddpnoighaa.Wr Go.Proofs.Ytfpocddpnoighaa.F
set_option linter.unusedVariables false
set_option linter.unusedSimpArgs false

def pick5 {α : Type} (f1 f2 f3 f4 f5 : Bool) (o0 o1 o2 o3 o4 o5 : α) : α := if f5 then o5 else if f4 then o4 else if f3 then o3 else if f2 then o2 else if f1 then o1 else o0
def bv (o : ByteArray × Bool) : Bool := numT 1 o.1 o.2 == 1
def bo (o : ByteArray × Bool) : ByteArray × Bool := (takeS 1 o.1 o.2, takeQ 1 o.1 o.2 || decide (1 < numT 1 o.1 o.2))
def itV (o : ByteArray × Bool) : Im := ⟨nv o, nv (nxt o), nv (nxt (nxt o)), bv (nxt (nxt (nxt o))), nv (bo (nxt (nxt (nxt o))))⟩
def itS (o : ByteArray × Bool) : ByteArray × Bool := nxt (bo (nxt (nxt (nxt o))))
def itemsV : Nat → ByteArray × Bool → List Im
  | 0, _ => []
  | n + 1, o => itV o :: itemsV n (itS o)
def itSs : Nat → ByteArray × Bool → ByteArray × Bool
  | 0, o => o
  | n + 1, o => itSs n (itS o)
theorem itemsV_snoc : ∀ (k : Nat) (o : ByteArray × Bool), itemsV (k + 1) o = itemsV k o ++ [itV (itSs k o)]
  | 0, o => rfl
  | k + 1, o => by
    have h1 : itemsV (k + 1 + 1) o = itV o :: itemsV (k + 1) (itS o) := rfl
    rw [h1, itemsV_snoc k (itS o)]; rfl
theorem itSs_snoc : ∀ (k : Nat) (o : ByteArray × Bool), itSs (k + 1) o = itS (itSs k o)
  | 0, o => rfl
  | k + 1, o => by
    have h1 : itSs (k + 1 + 1) o = itSs (k + 1) (itS o) := rfl
    rw [h1, itSs_snoc k (itS o)]; rfl
theorem bo_size (o : ByteArray × Bool) : (bo o).1.size ≤ o.1.size := take_size _ _ _
theorem itS_size (o : ByteArray × Bool) : (itS o).1.size ≤ o.1.size :=
  Nat.le_trans (nxt_size _) (Nat.le_trans (bo_size _) (Nat.le_trans (nxt_size _) (Nat.le_trans (nxt_size _) (nxt_size _))))
theorem itSs_size : ∀ (k : Nat) (o : ByteArray × Bool), (itSs k o).1.size ≤ o.1.size
  | 0, o => Nat.le_refl _
  | k + 1, o => Nat.le_trans (itSs_size k (itS o)) (itS_size o)
theorem len_itemsV : ∀ (k : Nat) (o : ByteArray × Bool), (itemsV k o).length = k
  | 0, o => rfl
  | k + 1, o => by simp [itemsV, len_itemsV k (itS o)]
set_option maxHeartbeats 8000000 in
set_option maxRecDepth 100000 in
theorem items_read (bi b : Nat) (o : ByteArray × Bool) (w : World) (h : Rst bi b w o) (hs : o.1.size ≤ 140737488355328) : Calls Try.prog 48 #[.pointer (some ⟨bi, 0, none⟩)] w fun e w' => ∃ v, e = .returned v ∧ w'.ownsRow w.heap.size 86 5 v (manyV o) ((itemsV (manyV o) (manyS o)).flatMap encIm) ∧ Rst bi b w' (itSs (manyV o) (manyS o)) ∧ Keep [b] w w' := by
  have HC := Lib.hid (many_any bi b o w h hs)
  have hV := manyV_le o
  have hz : (manyS o).1.size ≤ 140737488355328 := Nat.le_trans (many_size o) hs
  obtain ⟨m, hm⟩ : ∃ m, Hid (manyV o = m) := ⟨_, Lib.hid rfl⟩
  obtain ⟨o', ho'⟩ : ∃ o1, Hid (manyS o = o1) := ⟨_, Lib.hid rfl⟩
  have hbl : Hid (bi < w.heap.size ∧ b < w.heap.size) := Lib.hid ⟨(Array.getElem?_eq_some_iff.1 h.hbi).1, h.rd.lt⟩
  rw [hm.out] at HC hV ⊢
  rw [ho'.out] at HC hz ⊢
  have HZ := Lib.hid hz
  clear h hs hz
  go_enter Try.func48, Try.ntmps48
  go_wp2_with fail
  refine HC.out.mono ?_
  rintro e w1 ⟨rfl, hr1, hk1⟩
  have HR1 := Lib.hid hr1
  have HK1 := Lib.hid hk1
  clear hr1 hk1 HC
  go_wp2
  go_loopw [3, 6] (fun v i wr => ∃ k : Nat, k ≤ m ∧ i = .int .i64 k ∧ wr.ownsRow w.heap.size 86 5 v k ((itemsV k o').flatMap encIm) ∧ Rst bi b wr (itSs k o') ∧ Keep [b] w wr) (fun _ i _ => m - (intOf i).toNat)
  case atStart => exact ⟨0, by omega, rfl, World.ownsRow_nil _ _ _ _, HR1.out, HK1.out⟩
  case round =>
    obtain ⟨k, hk, rfl, ho, hr, hkp⟩ := hrel
    by_cases hlt : k < m
    · obtain ⟨o0, hok⟩ : ∃ x, Hid (itSs k o' = x) := ⟨_, Lib.hid rfl⟩
      obtain ⟨xs, hxs⟩ : ∃ x, Hid ((itemsV k o').flatMap encIm = x) := ⟨_, Lib.hid rfl⟩
      obtain ⟨o1, ho1⟩ : ∃ x, Hid (nxt o0 = x) := ⟨_, Lib.hid rfl⟩
      obtain ⟨o2, ho2⟩ : ∃ x, Hid (nxt o1 = x) := ⟨_, Lib.hid rfl⟩
      obtain ⟨o3, ho3⟩ : ∃ x, Hid (nxt o2 = x) := ⟨_, Lib.hid rfl⟩
      obtain ⟨o4, ho4⟩ : ∃ x, Hid (bo o3 = x) := ⟨_, Lib.hid rfl⟩
      obtain ⟨o5, ho5⟩ : ∃ x, Hid (nxt o4 = x) := ⟨_, Lib.hid rfl⟩
      obtain ⟨n1, hn1⟩ : ∃ x, Hid (nv o0 = x) := ⟨_, Lib.hid rfl⟩
      obtain ⟨n2, hn2⟩ : ∃ x, Hid (nv o1 = x) := ⟨_, Lib.hid rfl⟩
      obtain ⟨n3, hn3⟩ : ∃ x, Hid (nv o2 = x) := ⟨_, Lib.hid rfl⟩
      obtain ⟨n4, hn4⟩ : ∃ x, Hid (bv o3 = x) := ⟨_, Lib.hid rfl⟩
      obtain ⟨n5, hn5⟩ : ∃ x, Hid (nv o4 = x) := ⟨_, Lib.hid rfl⟩
      have hz0 : Hid (o0.1.size ≤ 9223372036854775807) := Lib.hid (by
        have h1 := itSs_size k o'
        rw [hok.out] at h1
        have := HZ.out
        omega)
      have hz1 : Hid (o1.1.size ≤ 9223372036854775807) := Lib.hid (by rw [← ho1.out]; exact Nat.le_trans (nxt_size _) hz0.out)
      have hz2 : Hid (o2.1.size ≤ 9223372036854775807) := Lib.hid (by rw [← ho2.out]; exact Nat.le_trans (nxt_size _) hz1.out)
      have hz3 : Hid (o3.1.size ≤ 9223372036854775807) := Lib.hid (by rw [← ho3.out]; exact Nat.le_trans (nxt_size _) hz2.out)
      have hz4 : Hid (o4.1.size ≤ 9223372036854775807) := Lib.hid (by rw [← ho4.out]; exact Nat.le_trans (bo_size _) hz3.out)
      have hs1 : Hid (takeS 8 o0.1 o0.2 = o1.1) := Lib.hid (by rw [← ho1.out]; rfl)
      have hq1 : Hid (takeQ 8 o0.1 o0.2 = o1.2) := Lib.hid (by rw [← ho1.out]; rfl)
      have hs2 : Hid (takeS 8 o1.1 o1.2 = o2.1) := Lib.hid (by rw [← ho2.out]; rfl)
      have hq2 : Hid (takeQ 8 o1.1 o1.2 = o2.2) := Lib.hid (by rw [← ho2.out]; rfl)
      have hs3 : Hid (takeS 8 o2.1 o2.2 = o3.1) := Lib.hid (by rw [← ho3.out]; rfl)
      have hq3 : Hid (takeQ 8 o2.1 o2.2 = o3.2) := Lib.hid (by rw [← ho3.out]; rfl)
      have hs4 : Hid (takeS 1 o3.1 o3.2 = o4.1) := Lib.hid (by rw [← ho4.out]; rfl)
      have hq4 : Hid ((takeQ 1 o3.1 o3.2 || decide (1 < numT 1 o3.1 o3.2)) = o4.2) := Lib.hid (by rw [← ho4.out]; rfl)
      have hs5 : Hid (takeS 8 o4.1 o4.2 = o5.1) := Lib.hid (by rw [← ho5.out]; rfl)
      have hq5 : Hid (takeQ 8 o4.1 o4.2 = o5.2) := Lib.hid (by rw [← ho5.out]; rfl)
      have hx1 : Hid ((itemsV (k + 1) o').flatMap encIm = xs ++ [.int .i64 n1, .int .i64 n2, .int .i64 n3, .bool n4, .int .i64 n5]) := Lib.hid (by
        rw [itemsV_snoc, List.flatMap_append, hxs.out, hok.out]
        unfold itV
        rw [ho1.out, ho2.out, ho3.out, ho4.out, hn1.out, hn2.out, hn3.out, hn4.out, hn5.out]
        rfl)
      have hx2 : Hid (itSs (k + 1) o' = o5) := Lib.hid (by rw [itSs_snoc, hok.out]; unfold itS; rw [ho1.out, ho2.out, ho3.out, ho4.out, ho5.out])
      unfold nv at hn1 hn2 hn3 hn5
      unfold bv at hn4
      rw [hxs.out] at ho
      rw [hok.out] at hr
      obtain ⟨B, hB⟩ : ∃ B, Hid (w.heap.size = B) := ⟨_, Lib.hid rfl⟩
      obtain ⟨ob, hob⟩ : ∃ ob, Hid (u3.ownBlock = ob) := ⟨_, Lib.hid rfl⟩
      have hlo : Hid (∀ j, ob = some j → B ≤ j) := Lib.hid (fun j hj => by rw [← hB.out]; exact (own_lt ho j (hob.out.trans hj)).1)
      have hnb : Hid (∀ j, u3.ownBlock = some j → j ≠ b) := Lib.hid (fun j hj => by have := (own_lt ho j hj).1; have := hbl.out; omega)
      have hnbi : Hid (∀ j, u3.ownBlock = some j → j ≠ bi) := Lib.hid (fun j hj => by have := (own_lt ho j hj).1; have := hbl.out; omega)
      have hk16 : Hid (k < 16) := Lib.hid (by omega)
      have hS0 : Rst bi b wr.drew o0 ∧ wr.drew.ownsRow B 86 5 u3 k xs ∧ B ≤ wr.drew.heap.size := ⟨hr.below (below_drew (Below.refl _ _)), by rw [← hB.out]; exact own_kept ho (below_drew (Below.refl _ _)), by rw [← hB.out]; exact hkp.size⟩
      have hnot : bi ∉ b :: ob.toList := by
        intro hm
        rcases List.mem_cons.1 hm with e | e
        · exact hr.ne e
        · cases hc : ob with
          | none => rw [hc] at e; simp at e
          | some j => rw [hc] at e; simp at e; exact hnbi.out j (hob.out.trans hc) e.symm
      have hI : Hid (∀ W, Keep (b :: ob.toList) wr.drew W → W.cell? ⟨bi, 0, none⟩ = some (.pointer (some ⟨b, 0, none⟩))) := Lib.hid fun W hk => by
        rw [cell_of_row _ _ _ _ _ _ (keep_block hk hS0.1.hbi hnot)]; rfl
      have HNX : Hid (∀ v W, (W.ownsRow B 86 5 v (k + 1) (xs ++ [.int .i64 n1, .int .i64 n2, .int .i64 n3, .bool n4, .int .i64 n5]) ∧ Rst bi b W o5) → Keep (b :: ob.toList) wr.drew W → W.ownsRow w.heap.size 86 5 v (k + 1) ((itemsV (k + 1) o').flatMap encIm) ∧ Rst bi b W (itSs (k + 1) o') ∧ Keep [b] w W) := Lib.hid (fun v W h hk => by
        refine ⟨by rw [hx1.out, hB.out]; exact h.1, by rw [hx2.out]; exact h.2, ?_⟩
        have h1 := hkp.drew
        refine ⟨hk.os.trans h1.os, hk.tape.trans h1.tape, hk.output.trans h1.output, Nat.le_trans h1.size hk.size, fun j hj hjn => ?_⟩
        refine (hk.block j (Nat.lt_of_lt_of_le hj h1.size) (fun hm => ?_)).trans (h1.block j hj hjn)
        rcases List.mem_cons.1 hm with e | e
        · exact hjn (by simp [e])
        · cases hc : ob with
          | none => rw [hc] at e; simp at e
          | some i => rw [hc] at e; simp at e; have := hlo.out i hc; have := hB.out; omega)
      clear ho hr hkp hnot
      go_wp2_with fail
      refine wp_region_done (fun dnf => fun W => (dnf 28) = false → Rst bi b W (pick5 (dnf 5) (dnf 10) (dnf 15) (dnf 20) (dnf 25) o0 o1 o2 o3 o4 o5) ∧ W.ownsRow B 86 5 u3 k xs ∧ B ≤ W.heap.size) (fun u v => Keep (b :: ob.toList) u v) (fun k u v => (k = 5 → (fun u v => Keep [b] u v) u v) ∧ (k = 10 → (fun u v => Keep [b] u v) u v) ∧ (k = 15 → (fun u v => Keep [b] u v) u v) ∧ (k = 20 → (fun u v => Keep [b] u v) u v) ∧ (k = 25 → (fun u v => Keep [b] u v) u v) ∧ (k = 28 → (fun u v => Keep (b :: ob.toList) u v) u v) ∧ (¬ k = 5 → ¬ k = 10 → ¬ k = 15 → ¬ k = 20 → ¬ k = 25 → ¬ k = 28 → (fun u v => Below u.heap.size u v) u v)) (fun a i => match i with
          | 0 => (fun v _ => v = u3)
          | 1 => (fun v _ => v = .pointer (some ⟨bi, 0, none⟩))
          | 2 => (fun v _ => v = .pointer (some ⟨bi, 0, none⟩))
          | 3 => (fun v _ => v = .pointer (some ⟨bi, 0, none⟩))
          | 4 => (fun v _ => v = .pointer (some ⟨b, 0, none⟩))
          | 5 => (fun v _ => v = .int .i64 n1)
          | 6 => (fun v _ => v = .pointer (some ⟨bi, 0, none⟩))
          | 7 => (fun v _ => v = .pointer (some ⟨bi, 0, none⟩))
          | 8 => (fun v _ => v = .pointer (some ⟨bi, 0, none⟩))
          | 9 => (fun v _ => v = .pointer (some ⟨b, 0, none⟩))
          | 10 => (fun v _ => v = .int .i64 n2)
          | 11 => (fun v _ => v = .pointer (some ⟨bi, 0, none⟩))
          | 12 => (fun v _ => v = .pointer (some ⟨bi, 0, none⟩))
          | 13 => (fun v _ => v = .pointer (some ⟨bi, 0, none⟩))
          | 14 => (fun v _ => v = .pointer (some ⟨b, 0, none⟩))
          | 15 => (fun v _ => v = .int .i64 n3)
          | 16 => (fun v _ => v = .pointer (some ⟨bi, 0, none⟩))
          | 17 => (fun v _ => v = .pointer (some ⟨bi, 0, none⟩))
          | 18 => (fun v _ => v = .pointer (some ⟨bi, 0, none⟩))
          | 19 => (fun v _ => v = .pointer (some ⟨b, 0, none⟩))
          | 20 => (fun v _ => v = .bool n4)
          | 21 => (fun v _ => v = .pointer (some ⟨bi, 0, none⟩))
          | 22 => (fun v _ => v = .pointer (some ⟨bi, 0, none⟩))
          | 23 => (fun v _ => v = .pointer (some ⟨bi, 0, none⟩))
          | 24 => (fun v _ => v = .pointer (some ⟨b, 0, none⟩))
          | 25 => (fun v _ => v = .int .i64 n5)
          | 26 => (fun v _ => v = .agg #[.int .i64 n1, .int .i64 n2, .int .i64 n3, .bool n4, .int .i64 n5])
          | 27 => (fun v W => ∃ j, v = .slice (some ⟨j, 0, none⟩) 1 1 ∧ j < W.heap.size ∧ W.heap[j]? = some (.cells #[.int .i64 n1, .int .i64 n2, .int .i64 n3, .bool n4, .int .i64 n5] 86 (0, 0)))
          | 28 => (fun v W => W.ownsRow B 86 5 v (k + 1) (xs ++ [.int .i64 n1, .int .i64 n2, .int .i64 n3, .bool n4, .int .i64 n5]) ∧ Rst bi b W o5)
          | 29 => (fun v W => W.ownsRow B 86 5 v (k + 1) (xs ++ [.int .i64 n1, .int .i64 n2, .int .i64 n3, .bool n4, .int .i64 n5]) ∧ Rst bi b W o5)
          | _ => (fun _ _ => True)) #[0, 0, 2, 6, 14, 30, 0, 64, 192, 448, 1022, 0, 2048, 6144, 14336, 32766, 0, 65536, 196608, 458752, 1048574, 0, 2097152, 6291456, 14680064, 33554430, 67108862, 134217726, 268435455, 536870911] #[0, 0, 2, 4, 8, 16, 0, 64, 128, 256, 512, 0, 2048, 4096, 8192, 16384, 0, 65536, 131072, 262144, 524288, 0, 2097152, 4194304, 8388608, 16777216, 34636832, 67108864, 134217729, 268435456] 671088639 (by kernel_rfl) 30 rfl (fun m hm => by subst hm; kernel_rfl) (by kernel_rfl) (fun w => Keep.refl _ w) (fun u v w h1 h2 => h1.trans h2) ?_ ?_ (fun _ => hS0) ?_ ?_
      · intro k u v hk hr
        by_cases hs5 : k = 5
        · have h := hr.1 hs5; exact h.mono (by simp)
        by_cases hs10 : k = 10
        · have h := hr.2.1 hs10; exact h.mono (by simp)
        by_cases hs15 : k = 15
        · have h := hr.2.2.1 hs15; exact h.mono (by simp)
        by_cases hs20 : k = 20
        · have h := hr.2.2.2.1 hs20; exact h.mono (by simp)
        by_cases hs25 : k = 25
        · have h := hr.2.2.2.2.1 hs25; exact h.mono (by simp)
        by_cases hs28 : k = 28
        · have h := hr.2.2.2.2.2.1 hs28; exact h
        have h := hr.2.2.2.2.2.2 hs5 hs10 hs15 hs20 hs25 hs28; exact Keep.of_below h
      · intro i hi
        rcases (by omega : i = 0 ∨ i = 1 ∨ i = 2 ∨ i = 3 ∨ i = 4 ∨ i = 5 ∨ i = 6 ∨ i = 7 ∨ i = 8 ∨ i = 9 ∨ i = 10 ∨ i = 11 ∨ i = 12 ∨ i = 13 ∨ i = 14 ∨ i = 15 ∨ i = 16 ∨ i = 17 ∨ i = 18 ∨ i = 19 ∨ i = 20 ∨ i = 21 ∨ i = 22 ∨ i = 23 ∨ i = 24 ∨ i = 25 ∨ i = 26 ∨ i = 27 ∨ i = 28 ∨ i = 29) with rfl | rfl | rfl | rfl | rfl | rfl | rfl | rfl | rfl | rfl | rfl | rfl | rfl | rfl | rfl | rfl | rfl | rfl | rfl | rfl | rfl | rfl | rfl | rfl | rfl | rfl | rfl | rfl | rfl | rfl
        · intro k hk y hy hyt v w w' h hr
          exact h
        · intro k hk y hy hyt v w w' h hr
          exact h
        · intro k hk y hy hyt v w w' h hr
          exact h
        · intro k hk y hy hyt v w w' h hr
          exact h
        · intro k hk y hy hyt v w w' h hr
          exact h
        · intro k hk y hy hyt v w w' h hr
          exact h
        · intro k hk y hy hyt v w w' h hr
          exact h
        · intro k hk y hy hyt v w w' h hr
          exact h
        · intro k hk y hy hyt v w w' h hr
          exact h
        · intro k hk y hy hyt v w w' h hr
          exact h
        · intro k hk y hy hyt v w w' h hr
          exact h
        · intro k hk y hy hyt v w w' h hr
          exact h
        · intro k hk y hy hyt v w w' h hr
          exact h
        · intro k hk y hy hyt v w w' h hr
          exact h
        · intro k hk y hy hyt v w w' h hr
          exact h
        · intro k hk y hy hyt v w w' h hr
          exact h
        · intro k hk y hy hyt v w w' h hr
          exact h
        · intro k hk y hy hyt v w w' h hr
          exact h
        · intro k hk y hy hyt v w w' h hr
          exact h
        · intro k hk y hy hyt v w w' h hr
          exact h
        · intro k hk y hy hyt v w w' h hr
          exact h
        · intro k hk y hy hyt v w w' h hr
          exact h
        · intro k hk y hy hyt v w w' h hr
          exact h
        · intro k hk y hy hyt v w w' h hr
          exact h
        · intro k hk y hy hyt v w w' h hr
          exact h
        · intro k hk y hy hyt v w w' h hr
          exact h
        · intro k hk y hy hyt v w w' h hr
          exact h
        · intro k hk y hy hyt v w w' h hr
          by_cases hs5 : k = 5
          · have hr0 := hr.1 hs5
            subst hs5
            exact absurd (hy.trans hyt) (ne_true_of_eq_false (by kernel_rfl))
          by_cases hs10 : k = 10
          · have hr0 := hr.2.1 hs10
            subst hs10
            exact absurd (hy.trans hyt) (ne_true_of_eq_false (by kernel_rfl))
          by_cases hs15 : k = 15
          · have hr0 := hr.2.2.1 hs15
            subst hs15
            exact absurd (hy.trans hyt) (ne_true_of_eq_false (by kernel_rfl))
          by_cases hs20 : k = 20
          · have hr0 := hr.2.2.2.1 hs20
            subst hs20
            exact absurd (hy.trans hyt) (ne_true_of_eq_false (by kernel_rfl))
          by_cases hs25 : k = 25
          · have hr0 := hr.2.2.2.2.1 hs25
            subst hs25
            exact absurd (hy.trans hyt) (ne_true_of_eq_false (by kernel_rfl))
          by_cases hs28 : k = 28
          · have hr0 := hr.2.2.2.2.2.1 hs28
            subst hs28
            exact absurd (hy.trans hyt) (ne_true_of_eq_false (by kernel_rfl))
          have hr := hr.2.2.2.2.2.2 hs5 hs10 hs15 hs20 hs25 hs28
          obtain ⟨j, h1, h2, h3⟩ := h; exact ⟨j, h1, Nat.lt_of_lt_of_le h2 hr.size, (hr.block j h2).trans h3⟩
        · intro k hk y hy hyt v w w' h hr
          by_cases hs5 : k = 5
          · have hr0 := hr.1 hs5
            subst hs5
            exact absurd (hy.trans hyt) (ne_true_of_eq_false (by kernel_rfl))
          by_cases hs10 : k = 10
          · have hr0 := hr.2.1 hs10
            subst hs10
            exact absurd (hy.trans hyt) (ne_true_of_eq_false (by kernel_rfl))
          by_cases hs15 : k = 15
          · have hr0 := hr.2.2.1 hs15
            subst hs15
            exact absurd (hy.trans hyt) (ne_true_of_eq_false (by kernel_rfl))
          by_cases hs20 : k = 20
          · have hr0 := hr.2.2.2.1 hs20
            subst hs20
            exact absurd (hy.trans hyt) (ne_true_of_eq_false (by kernel_rfl))
          by_cases hs25 : k = 25
          · have hr0 := hr.2.2.2.2.1 hs25
            subst hs25
            exact absurd (hy.trans hyt) (ne_true_of_eq_false (by kernel_rfl))
          by_cases hs28 : k = 28
          · have hr0 := hr.2.2.2.2.2.1 hs28
            subst hs28
            exact absurd (hy.trans hyt) (ne_true_of_eq_false (by kernel_rfl))
          have hr := hr.2.2.2.2.2.2 hs5 hs10 hs15 hs20 hs25 hs28
          exact ⟨own_kept h.1 hr, h.2.below hr⟩
        · intro k hk y hy hyt v w w' h hr
          by_cases hs5 : k = 5
          · have hr0 := hr.1 hs5
            subst hs5
            exact absurd (hy.trans hyt) (ne_true_of_eq_false (by kernel_rfl))
          by_cases hs10 : k = 10
          · have hr0 := hr.2.1 hs10
            subst hs10
            exact absurd (hy.trans hyt) (ne_true_of_eq_false (by kernel_rfl))
          by_cases hs15 : k = 15
          · have hr0 := hr.2.2.1 hs15
            subst hs15
            exact absurd (hy.trans hyt) (ne_true_of_eq_false (by kernel_rfl))
          by_cases hs20 : k = 20
          · have hr0 := hr.2.2.2.1 hs20
            subst hs20
            exact absurd (hy.trans hyt) (ne_true_of_eq_false (by kernel_rfl))
          by_cases hs25 : k = 25
          · have hr0 := hr.2.2.2.2.1 hs25
            subst hs25
            exact absurd (hy.trans hyt) (ne_true_of_eq_false (by kernel_rfl))
          by_cases hs28 : k = 28
          · have hr0 := hr.2.2.2.2.2.1 hs28
            subst hs28
            exact absurd (hy.trans hyt) (ne_true_of_eq_false (by kernel_rfl))
          have hr := hr.2.2.2.2.2.2 hs5 hs10 hs15 hs20 hs25 hs28
          exact ⟨own_kept h.1 hr, h.2.below hr⟩
      · intro i hi
        rcases (by omega : i = 0 ∨ i = 1 ∨ i = 2 ∨ i = 3 ∨ i = 4 ∨ i = 5 ∨ i = 6 ∨ i = 7 ∨ i = 8 ∨ i = 9 ∨ i = 10 ∨ i = 11 ∨ i = 12 ∨ i = 13 ∨ i = 14 ∨ i = 15 ∨ i = 16 ∨ i = 17 ∨ i = 18 ∨ i = 19 ∨ i = 20 ∨ i = 21 ∨ i = 22 ∨ i = 23 ∨ i = 24 ∨ i = 25 ∨ i = 26 ∨ i = 27 ∨ i = 28 ∨ i = 29) with rfl | rfl | rfl | rfl | rfl | rfl | rfl | rfl | rfl | rfl | rfl | rfl | rfl | rfl | rfl | rfl | rfl | rfl | rfl | rfl | rfl | rfl | rfl | rfl | rfl | rfl | rfl | rfl | rfl | rfl
        · -- 0: Op.move (Operand.tmp 3)
          intro l hl vs W dn e1 e2 e3 hS hR hp
          have f5 : dn 5 = dn 5 := rfl
          have f10 : dn 10 = dn 10 := rfl
          have f15 : dn 15 = dn 15 := rfl
          have f20 : dn 20 = dn 20 := rfl
          have f25 : dn 25 = dn 25 := rfl
          have f28 : dn 28 = false := e3 28 (by kernel_rfl)
          replace hS : (fun W => (dn 28) = false → Rst bi b W (pick5 (dn 5) (dn 10) (dn 15) (dn 20) (dn 25) o0 o1 o2 o3 o4 o5) ∧ W.ownsRow B 86 5 u3 k xs ∧ B ≤ W.heap.size) W := hS
          rw [f28] at hS
          have g5 : (dn 5 || ((0 : Nat) == 5)) = dn 5 := Bool.or_false _
          have g10 : (dn 10 || ((0 : Nat) == 10)) = dn 10 := Bool.or_false _
          have g15 : (dn 15 || ((0 : Nat) == 15)) = dn 15 := Bool.or_false _
          have g20 : (dn 20 || ((0 : Nat) == 20)) = dn 20 := Bool.or_false _
          have g25 : (dn 25 || ((0 : Nat) == 25)) = dn 25 := Bool.or_false _
          have g28 : (dn 28 || ((0 : Nat) == 28)) = false := by rw [f28]; rfl
          refine OpGoal.imp (S1 := fun W => false = false → Rst bi b W (pick5 (dn 5) (dn 10) (dn 15) (dn 20) (dn 25) o0 o1 o2 o3 o4 o5) ∧ W.ownsRow B 86 5 u3 k xs ∧ B ≤ W.heap.size) (fun W' h => ?_) ?_
          · show (fun W => (dn 28 || ((0 : Nat) == 28)) = false → Rst bi b W (pick5 (dn 5 || ((0 : Nat) == 5)) (dn 10 || ((0 : Nat) == 10)) (dn 15 || ((0 : Nat) == 15)) (dn 20 || ((0 : Nat) == 20)) (dn 25 || ((0 : Nat) == 25)) o0 o1 o2 o3 o4 o5) ∧ W.ownsRow B 86 5 u3 k xs ∧ B ≤ W.heap.size) W'
            rw [g5, g10, g15, g20, g25, g28]
            exact h
          clear g5 g10 g15 g20 g25 g28 e1 e2 e3
          obtain rfl : l = [] := hl.symm.trans (by kernel_rfl)
          clear hp hl
          refine opgoal (_) (some 8) rfl rfl fun K hK => ?_
          refine Runs.mk ?_
          simp only [putAll]
          go_simp
          refine hK _ _ ?_ hS ⟨fun h => absurd h (by decide), fun h => absurd h (by decide), fun h => absurd h (by decide), fun h => absurd h (by decide), fun h => absurd h (by decide), fun h => absurd h (by decide), fun h5 h10 h15 h20 h25 h28 => ((fun w => Below.refl _ w) W)⟩ _ rfl rfl
          first | rfl | go_simp | simp
        · -- 1: Op.move (Operand.tmp 0)
          intro l hl vs W dn e1 e2 e3 hS hR hp
          have f5 : dn 5 = false := e3 5 (by kernel_rfl)
          have f10 : dn 10 = false := e3 10 (by kernel_rfl)
          have f15 : dn 15 = false := e3 15 (by kernel_rfl)
          have f20 : dn 20 = false := e3 20 (by kernel_rfl)
          have f25 : dn 25 = false := e3 25 (by kernel_rfl)
          have f28 : dn 28 = false := e3 28 (by kernel_rfl)
          replace hS : (fun W => (dn 28) = false → Rst bi b W (pick5 (dn 5) (dn 10) (dn 15) (dn 20) (dn 25) o0 o1 o2 o3 o4 o5) ∧ W.ownsRow B 86 5 u3 k xs ∧ B ≤ W.heap.size) W := hS
          rw [f5, f10, f15, f20, f25, f28] at hS
          have g5 : (dn 5 || ((1 : Nat) == 5)) = false := by rw [f5]; rfl
          have g10 : (dn 10 || ((1 : Nat) == 10)) = false := by rw [f10]; rfl
          have g15 : (dn 15 || ((1 : Nat) == 15)) = false := by rw [f15]; rfl
          have g20 : (dn 20 || ((1 : Nat) == 20)) = false := by rw [f20]; rfl
          have g25 : (dn 25 || ((1 : Nat) == 25)) = false := by rw [f25]; rfl
          have g28 : (dn 28 || ((1 : Nat) == 28)) = false := by rw [f28]; rfl
          refine OpGoal.imp (S1 := fun W => false = false → Rst bi b W (pick5 false false false false false o0 o1 o2 o3 o4 o5) ∧ W.ownsRow B 86 5 u3 k xs ∧ B ≤ W.heap.size) (fun W' h => ?_) ?_
          · show (fun W => (dn 28 || ((1 : Nat) == 28)) = false → Rst bi b W (pick5 (dn 5 || ((1 : Nat) == 5)) (dn 10 || ((1 : Nat) == 10)) (dn 15 || ((1 : Nat) == 15)) (dn 20 || ((1 : Nat) == 20)) (dn 25 || ((1 : Nat) == 25)) o0 o1 o2 o3 o4 o5) ∧ W.ownsRow B 86 5 u3 k xs ∧ B ≤ W.heap.size) W'
            rw [g5, g10, g15, g20, g25, g28]
            exact h
          clear g5 g10 g15 g20 g25 g28 e1 e2 e3
          obtain rfl : l = [] := hl.symm.trans (by kernel_rfl)
          clear hp hl
          refine opgoal (_) (some 9) rfl rfl fun K hK => ?_
          refine Runs.mk ?_
          simp only [putAll]
          go_simp
          refine hK _ _ ?_ hS ⟨fun h => absurd h (by decide), fun h => absurd h (by decide), fun h => absurd h (by decide), fun h => absurd h (by decide), fun h => absurd h (by decide), fun h => absurd h (by decide), fun h5 h10 h15 h20 h25 h28 => ((fun w => Below.refl _ w) W)⟩ _ rfl rfl
          first | rfl | go_simp | simp
        · -- 2: Op.nilCheck (Operand.tmp 9)
          intro l hl vs W dn e1 e2 e3 hS hR hp
          have f5 : dn 5 = false := e3 5 (by kernel_rfl)
          have f10 : dn 10 = false := e3 10 (by kernel_rfl)
          have f15 : dn 15 = false := e3 15 (by kernel_rfl)
          have f20 : dn 20 = false := e3 20 (by kernel_rfl)
          have f25 : dn 25 = false := e3 25 (by kernel_rfl)
          have f28 : dn 28 = false := e3 28 (by kernel_rfl)
          replace hS : (fun W => (dn 28) = false → Rst bi b W (pick5 (dn 5) (dn 10) (dn 15) (dn 20) (dn 25) o0 o1 o2 o3 o4 o5) ∧ W.ownsRow B 86 5 u3 k xs ∧ B ≤ W.heap.size) W := hS
          rw [f5, f10, f15, f20, f25, f28] at hS
          have g5 : (dn 5 || ((2 : Nat) == 5)) = false := by rw [f5]; rfl
          have g10 : (dn 10 || ((2 : Nat) == 10)) = false := by rw [f10]; rfl
          have g15 : (dn 15 || ((2 : Nat) == 15)) = false := by rw [f15]; rfl
          have g20 : (dn 20 || ((2 : Nat) == 20)) = false := by rw [f20]; rfl
          have g25 : (dn 25 || ((2 : Nat) == 25)) = false := by rw [f25]; rfl
          have g28 : (dn 28 || ((2 : Nat) == 28)) = false := by rw [f28]; rfl
          refine OpGoal.imp (S1 := fun W => false = false → Rst bi b W (pick5 false false false false false o0 o1 o2 o3 o4 o5) ∧ W.ownsRow B 86 5 u3 k xs ∧ B ≤ W.heap.size) (fun W' h => ?_) ?_
          · show (fun W => (dn 28 || ((2 : Nat) == 28)) = false → Rst bi b W (pick5 (dn 5 || ((2 : Nat) == 5)) (dn 10 || ((2 : Nat) == 10)) (dn 15 || ((2 : Nat) == 15)) (dn 20 || ((2 : Nat) == 20)) (dn 25 || ((2 : Nat) == 25)) o0 o1 o2 o3 o4 o5) ∧ W.ownsRow B 86 5 u3 k xs ∧ B ≤ W.heap.size) W'
            rw [g5, g10, g15, g20, g25, g28]
            exact h
          clear g5 g10 g15 g20 g25 g28 e1 e2 e3
          obtain rfl : l = [(1, 9)] := hl.symm.trans (by kernel_rfl)
          have p1 : vs 1 = _ := hp 1 (by decide) (by decide)
          clear hp hl
          refine opgoal (_) (some 10) rfl rfl fun K hK => ?_
          refine Runs.mk ?_
          simp only [putAll]
          go_simp
          refine hK _ _ ?_ hS ⟨fun h => absurd h (by decide), fun h => absurd h (by decide), fun h => absurd h (by decide), fun h => absurd h (by decide), fun h => absurd h (by decide), fun h => absurd h (by decide), fun h5 h10 h15 h20 h25 h28 => ((fun w => Below.refl _ w) W)⟩ _ rfl rfl
          first | rfl | go_simp | simp
        · -- 3: Op.fieldAddr 78 (Operand.tmp 10) 0
          intro l hl vs W dn e1 e2 e3 hS hR hp
          have f5 : dn 5 = false := e3 5 (by kernel_rfl)
          have f10 : dn 10 = false := e3 10 (by kernel_rfl)
          have f15 : dn 15 = false := e3 15 (by kernel_rfl)
          have f20 : dn 20 = false := e3 20 (by kernel_rfl)
          have f25 : dn 25 = false := e3 25 (by kernel_rfl)
          have f28 : dn 28 = false := e3 28 (by kernel_rfl)
          replace hS : (fun W => (dn 28) = false → Rst bi b W (pick5 (dn 5) (dn 10) (dn 15) (dn 20) (dn 25) o0 o1 o2 o3 o4 o5) ∧ W.ownsRow B 86 5 u3 k xs ∧ B ≤ W.heap.size) W := hS
          rw [f5, f10, f15, f20, f25, f28] at hS
          have g5 : (dn 5 || ((3 : Nat) == 5)) = false := by rw [f5]; rfl
          have g10 : (dn 10 || ((3 : Nat) == 10)) = false := by rw [f10]; rfl
          have g15 : (dn 15 || ((3 : Nat) == 15)) = false := by rw [f15]; rfl
          have g20 : (dn 20 || ((3 : Nat) == 20)) = false := by rw [f20]; rfl
          have g25 : (dn 25 || ((3 : Nat) == 25)) = false := by rw [f25]; rfl
          have g28 : (dn 28 || ((3 : Nat) == 28)) = false := by rw [f28]; rfl
          refine OpGoal.imp (S1 := fun W => false = false → Rst bi b W (pick5 false false false false false o0 o1 o2 o3 o4 o5) ∧ W.ownsRow B 86 5 u3 k xs ∧ B ≤ W.heap.size) (fun W' h => ?_) ?_
          · show (fun W => (dn 28 || ((3 : Nat) == 28)) = false → Rst bi b W (pick5 (dn 5 || ((3 : Nat) == 5)) (dn 10 || ((3 : Nat) == 10)) (dn 15 || ((3 : Nat) == 15)) (dn 20 || ((3 : Nat) == 20)) (dn 25 || ((3 : Nat) == 25)) o0 o1 o2 o3 o4 o5) ∧ W.ownsRow B 86 5 u3 k xs ∧ B ≤ W.heap.size) W'
            rw [g5, g10, g15, g20, g25, g28]
            exact h
          clear g5 g10 g15 g20 g25 g28 e1 e2 e3
          obtain rfl : l = [(1, 9), (2, 10)] := hl.symm.trans (by kernel_rfl)
          have p2 : vs 2 = _ := hp 2 (by decide) (by decide)
          clear hp hl
          refine opgoal (_) (some 11) rfl rfl fun K hK => ?_
          refine Runs.mk ?_
          simp only [putAll]
          go_simp
          refine hK _ _ ?_ hS ⟨fun h => absurd h (by decide), fun h => absurd h (by decide), fun h => absurd h (by decide), fun h => absurd h (by decide), fun h => absurd h (by decide), fun h => absurd h (by decide), fun h5 h10 h15 h20 h25 h28 => ((fun w => Below.refl _ w) W)⟩ _ rfl rfl
          first | rfl | go_simp | simp
        · -- 4: Op.load 37 (Operand.tmp 11)
          intro l hl vs W dn e1 e2 e3 hS hR hp
          have f5 : dn 5 = false := e3 5 (by kernel_rfl)
          have f10 : dn 10 = false := e3 10 (by kernel_rfl)
          have f15 : dn 15 = false := e3 15 (by kernel_rfl)
          have f20 : dn 20 = false := e3 20 (by kernel_rfl)
          have f25 : dn 25 = false := e3 25 (by kernel_rfl)
          have f28 : dn 28 = false := e3 28 (by kernel_rfl)
          replace hS : (fun W => (dn 28) = false → Rst bi b W (pick5 (dn 5) (dn 10) (dn 15) (dn 20) (dn 25) o0 o1 o2 o3 o4 o5) ∧ W.ownsRow B 86 5 u3 k xs ∧ B ≤ W.heap.size) W := hS
          rw [f5, f10, f15, f20, f25, f28] at hS
          have g5 : (dn 5 || ((4 : Nat) == 5)) = false := by rw [f5]; rfl
          have g10 : (dn 10 || ((4 : Nat) == 10)) = false := by rw [f10]; rfl
          have g15 : (dn 15 || ((4 : Nat) == 15)) = false := by rw [f15]; rfl
          have g20 : (dn 20 || ((4 : Nat) == 20)) = false := by rw [f20]; rfl
          have g25 : (dn 25 || ((4 : Nat) == 25)) = false := by rw [f25]; rfl
          have g28 : (dn 28 || ((4 : Nat) == 28)) = false := by rw [f28]; rfl
          refine OpGoal.imp (S1 := fun W => false = false → Rst bi b W (pick5 false false false false false o0 o1 o2 o3 o4 o5) ∧ W.ownsRow B 86 5 u3 k xs ∧ B ≤ W.heap.size) (fun W' h => ?_) ?_
          · show (fun W => (dn 28 || ((4 : Nat) == 28)) = false → Rst bi b W (pick5 (dn 5 || ((4 : Nat) == 5)) (dn 10 || ((4 : Nat) == 10)) (dn 15 || ((4 : Nat) == 15)) (dn 20 || ((4 : Nat) == 20)) (dn 25 || ((4 : Nat) == 25)) o0 o1 o2 o3 o4 o5) ∧ W.ownsRow B 86 5 u3 k xs ∧ B ≤ W.heap.size) W'
            rw [g5, g10, g15, g20, g25, g28]
            exact h
          clear g5 g10 g15 g20 g25 g28 e1 e2 e3
          obtain rfl : l = [(1, 9), (2, 10), (3, 11)] := hl.symm.trans (by kernel_rfl)
          have p3 : vs 3 = _ := hp 3 (by decide) (by decide)
          clear hp hl
          refine opgoal (_) (some 12) rfl rfl fun K hK => ?_
          have hi0 := hI.out W hR
          refine Runs.mk ?_
          simp only [putAll]
          go_simp
          refine hK _ _ ?_ hS ⟨fun h => absurd h (by decide), fun h => absurd h (by decide), fun h => absurd h (by decide), fun h => absurd h (by decide), fun h => absurd h (by decide), fun h => absurd h (by decide), fun h5 h10 h15 h20 h25 h28 => ((fun w => Below.refl _ w) W)⟩ _ rfl rfl
          first | rfl | go_simp | simp
        · -- 5: Op.call { callee := Callee.value (Operand.func 85), args := #[Operand.tmp 12], argTypes := #[37] }
          intro l hl vs W dn e1 e2 e3 hS hR hp
          have f5 : dn 5 = false := e1
          have f10 : dn 10 = false := e3 10 (by kernel_rfl)
          have f15 : dn 15 = false := e3 15 (by kernel_rfl)
          have f20 : dn 20 = false := e3 20 (by kernel_rfl)
          have f25 : dn 25 = false := e3 25 (by kernel_rfl)
          have f28 : dn 28 = false := e3 28 (by kernel_rfl)
          replace hS : (fun W => (dn 28) = false → Rst bi b W (pick5 (dn 5) (dn 10) (dn 15) (dn 20) (dn 25) o0 o1 o2 o3 o4 o5) ∧ W.ownsRow B 86 5 u3 k xs ∧ B ≤ W.heap.size) W := hS
          rw [f5, f10, f15, f20, f25, f28] at hS
          have g5 : (dn 5 || ((5 : Nat) == 5)) = true := by rw [f5]; rfl
          have g10 : (dn 10 || ((5 : Nat) == 10)) = false := by rw [f10]; rfl
          have g15 : (dn 15 || ((5 : Nat) == 15)) = false := by rw [f15]; rfl
          have g20 : (dn 20 || ((5 : Nat) == 20)) = false := by rw [f20]; rfl
          have g25 : (dn 25 || ((5 : Nat) == 25)) = false := by rw [f25]; rfl
          have g28 : (dn 28 || ((5 : Nat) == 28)) = false := by rw [f28]; rfl
          refine OpGoal.imp (S1 := fun W => false = false → Rst bi b W (pick5 true false false false false o0 o1 o2 o3 o4 o5) ∧ W.ownsRow B 86 5 u3 k xs ∧ B ≤ W.heap.size) (fun W' h => ?_) ?_
          · show (fun W => (dn 28 || ((5 : Nat) == 28)) = false → Rst bi b W (pick5 (dn 5 || ((5 : Nat) == 5)) (dn 10 || ((5 : Nat) == 10)) (dn 15 || ((5 : Nat) == 15)) (dn 20 || ((5 : Nat) == 20)) (dn 25 || ((5 : Nat) == 25)) o0 o1 o2 o3 o4 o5) ∧ W.ownsRow B 86 5 u3 k xs ∧ B ≤ W.heap.size) W'
            rw [g5, g10, g15, g20, g25, g28]
            exact h
          clear g5 g10 g15 g20 g25 g28 e1 e2 e3
          obtain rfl : l = [(1, 9), (2, 10), (3, 11), (4, 12)] := hl.symm.trans (by kernel_rfl)
          have p4 : vs 4 = _ := hp 4 (by decide) (by decide)
          clear hp hl
          refine opgoal (_) (some 13) rfl rfl fun K hK => ?_
          refine Runs.mk ?_
          simp only [putAll]
          go_simp
          refine (num_read b o0.1 o0.2 W (hS rfl).1.rd hz0.out).mono ?_
          rintro e w' ⟨he, hr, hk⟩
          rw [hn1.out] at he
          subst he
          rw [hs1.out, hq1.out] at hr
          go_simp
          exact hK _ _ rfl (fun _ => ⟨(hS rfl).1.step hr hk, own_keep (hS rfl).2.1 hk (fun j hj => by have := hnb.out j hj; simpa using this), Nat.le_trans (hS rfl).2.2 hk.size⟩) ⟨fun _ => hk, fun h => absurd h (by decide), fun h => absurd h (by decide), fun h => absurd h (by decide), fun h => absurd h (by decide), fun h => absurd h (by decide), fun h5 h10 h15 h20 h25 h28 => absurd rfl h5⟩ _ rfl rfl
        · -- 6: Op.move (Operand.tmp 0)
          intro l hl vs W dn e1 e2 e3 hS hR hp
          have f5 : dn 5 = dn 5 := rfl
          have f10 : dn 10 = false := e3 10 (by kernel_rfl)
          have f15 : dn 15 = false := e3 15 (by kernel_rfl)
          have f20 : dn 20 = false := e3 20 (by kernel_rfl)
          have f25 : dn 25 = false := e3 25 (by kernel_rfl)
          have f28 : dn 28 = false := e3 28 (by kernel_rfl)
          replace hS : (fun W => (dn 28) = false → Rst bi b W (pick5 (dn 5) (dn 10) (dn 15) (dn 20) (dn 25) o0 o1 o2 o3 o4 o5) ∧ W.ownsRow B 86 5 u3 k xs ∧ B ≤ W.heap.size) W := hS
          rw [f10, f15, f20, f25, f28] at hS
          have g5 : (dn 5 || ((6 : Nat) == 5)) = dn 5 := Bool.or_false _
          have g10 : (dn 10 || ((6 : Nat) == 10)) = false := by rw [f10]; rfl
          have g15 : (dn 15 || ((6 : Nat) == 15)) = false := by rw [f15]; rfl
          have g20 : (dn 20 || ((6 : Nat) == 20)) = false := by rw [f20]; rfl
          have g25 : (dn 25 || ((6 : Nat) == 25)) = false := by rw [f25]; rfl
          have g28 : (dn 28 || ((6 : Nat) == 28)) = false := by rw [f28]; rfl
          refine OpGoal.imp (S1 := fun W => false = false → Rst bi b W (pick5 (dn 5) false false false false o0 o1 o2 o3 o4 o5) ∧ W.ownsRow B 86 5 u3 k xs ∧ B ≤ W.heap.size) (fun W' h => ?_) ?_
          · show (fun W => (dn 28 || ((6 : Nat) == 28)) = false → Rst bi b W (pick5 (dn 5 || ((6 : Nat) == 5)) (dn 10 || ((6 : Nat) == 10)) (dn 15 || ((6 : Nat) == 15)) (dn 20 || ((6 : Nat) == 20)) (dn 25 || ((6 : Nat) == 25)) o0 o1 o2 o3 o4 o5) ∧ W.ownsRow B 86 5 u3 k xs ∧ B ≤ W.heap.size) W'
            rw [g5, g10, g15, g20, g25, g28]
            exact h
          clear g5 g10 g15 g20 g25 g28 e1 e2 e3
          obtain rfl : l = [] := hl.symm.trans (by kernel_rfl)
          clear hp hl
          refine opgoal (_) (some 14) rfl rfl fun K hK => ?_
          refine Runs.mk ?_
          simp only [putAll]
          go_simp
          refine hK _ _ ?_ hS ⟨fun h => absurd h (by decide), fun h => absurd h (by decide), fun h => absurd h (by decide), fun h => absurd h (by decide), fun h => absurd h (by decide), fun h => absurd h (by decide), fun h5 h10 h15 h20 h25 h28 => ((fun w => Below.refl _ w) W)⟩ _ rfl rfl
          first | rfl | go_simp | simp
        · -- 7: Op.nilCheck (Operand.tmp 14)
          intro l hl vs W dn e1 e2 e3 hS hR hp
          have f5 : dn 5 = dn 5 := rfl
          have f10 : dn 10 = false := e3 10 (by kernel_rfl)
          have f15 : dn 15 = false := e3 15 (by kernel_rfl)
          have f20 : dn 20 = false := e3 20 (by kernel_rfl)
          have f25 : dn 25 = false := e3 25 (by kernel_rfl)
          have f28 : dn 28 = false := e3 28 (by kernel_rfl)
          replace hS : (fun W => (dn 28) = false → Rst bi b W (pick5 (dn 5) (dn 10) (dn 15) (dn 20) (dn 25) o0 o1 o2 o3 o4 o5) ∧ W.ownsRow B 86 5 u3 k xs ∧ B ≤ W.heap.size) W := hS
          rw [f10, f15, f20, f25, f28] at hS
          have g5 : (dn 5 || ((7 : Nat) == 5)) = dn 5 := Bool.or_false _
          have g10 : (dn 10 || ((7 : Nat) == 10)) = false := by rw [f10]; rfl
          have g15 : (dn 15 || ((7 : Nat) == 15)) = false := by rw [f15]; rfl
          have g20 : (dn 20 || ((7 : Nat) == 20)) = false := by rw [f20]; rfl
          have g25 : (dn 25 || ((7 : Nat) == 25)) = false := by rw [f25]; rfl
          have g28 : (dn 28 || ((7 : Nat) == 28)) = false := by rw [f28]; rfl
          refine OpGoal.imp (S1 := fun W => false = false → Rst bi b W (pick5 (dn 5) false false false false o0 o1 o2 o3 o4 o5) ∧ W.ownsRow B 86 5 u3 k xs ∧ B ≤ W.heap.size) (fun W' h => ?_) ?_
          · show (fun W => (dn 28 || ((7 : Nat) == 28)) = false → Rst bi b W (pick5 (dn 5 || ((7 : Nat) == 5)) (dn 10 || ((7 : Nat) == 10)) (dn 15 || ((7 : Nat) == 15)) (dn 20 || ((7 : Nat) == 20)) (dn 25 || ((7 : Nat) == 25)) o0 o1 o2 o3 o4 o5) ∧ W.ownsRow B 86 5 u3 k xs ∧ B ≤ W.heap.size) W'
            rw [g5, g10, g15, g20, g25, g28]
            exact h
          clear g5 g10 g15 g20 g25 g28 e1 e2 e3
          obtain rfl : l = [(6, 14)] := hl.symm.trans (by kernel_rfl)
          have p6 : vs 6 = _ := hp 6 (by decide) (by decide)
          clear hp hl
          refine opgoal (_) (some 15) rfl rfl fun K hK => ?_
          refine Runs.mk ?_
          simp only [putAll]
          go_simp
          refine hK _ _ ?_ hS ⟨fun h => absurd h (by decide), fun h => absurd h (by decide), fun h => absurd h (by decide), fun h => absurd h (by decide), fun h => absurd h (by decide), fun h => absurd h (by decide), fun h5 h10 h15 h20 h25 h28 => ((fun w => Below.refl _ w) W)⟩ _ rfl rfl
          first | rfl | go_simp | simp
        · -- 8: Op.fieldAddr 78 (Operand.tmp 15) 0
          intro l hl vs W dn e1 e2 e3 hS hR hp
          have f5 : dn 5 = dn 5 := rfl
          have f10 : dn 10 = false := e3 10 (by kernel_rfl)
          have f15 : dn 15 = false := e3 15 (by kernel_rfl)
          have f20 : dn 20 = false := e3 20 (by kernel_rfl)
          have f25 : dn 25 = false := e3 25 (by kernel_rfl)
          have f28 : dn 28 = false := e3 28 (by kernel_rfl)
          replace hS : (fun W => (dn 28) = false → Rst bi b W (pick5 (dn 5) (dn 10) (dn 15) (dn 20) (dn 25) o0 o1 o2 o3 o4 o5) ∧ W.ownsRow B 86 5 u3 k xs ∧ B ≤ W.heap.size) W := hS
          rw [f10, f15, f20, f25, f28] at hS
          have g5 : (dn 5 || ((8 : Nat) == 5)) = dn 5 := Bool.or_false _
          have g10 : (dn 10 || ((8 : Nat) == 10)) = false := by rw [f10]; rfl
          have g15 : (dn 15 || ((8 : Nat) == 15)) = false := by rw [f15]; rfl
          have g20 : (dn 20 || ((8 : Nat) == 20)) = false := by rw [f20]; rfl
          have g25 : (dn 25 || ((8 : Nat) == 25)) = false := by rw [f25]; rfl
          have g28 : (dn 28 || ((8 : Nat) == 28)) = false := by rw [f28]; rfl
          refine OpGoal.imp (S1 := fun W => false = false → Rst bi b W (pick5 (dn 5) false false false false o0 o1 o2 o3 o4 o5) ∧ W.ownsRow B 86 5 u3 k xs ∧ B ≤ W.heap.size) (fun W' h => ?_) ?_
          · show (fun W => (dn 28 || ((8 : Nat) == 28)) = false → Rst bi b W (pick5 (dn 5 || ((8 : Nat) == 5)) (dn 10 || ((8 : Nat) == 10)) (dn 15 || ((8 : Nat) == 15)) (dn 20 || ((8 : Nat) == 20)) (dn 25 || ((8 : Nat) == 25)) o0 o1 o2 o3 o4 o5) ∧ W.ownsRow B 86 5 u3 k xs ∧ B ≤ W.heap.size) W'
            rw [g5, g10, g15, g20, g25, g28]
            exact h
          clear g5 g10 g15 g20 g25 g28 e1 e2 e3
          obtain rfl : l = [(6, 14), (7, 15)] := hl.symm.trans (by kernel_rfl)
          have p7 : vs 7 = _ := hp 7 (by decide) (by decide)
          clear hp hl
          refine opgoal (_) (some 16) rfl rfl fun K hK => ?_
          refine Runs.mk ?_
          simp only [putAll]
          go_simp
          refine hK _ _ ?_ hS ⟨fun h => absurd h (by decide), fun h => absurd h (by decide), fun h => absurd h (by decide), fun h => absurd h (by decide), fun h => absurd h (by decide), fun h => absurd h (by decide), fun h5 h10 h15 h20 h25 h28 => ((fun w => Below.refl _ w) W)⟩ _ rfl rfl
          first | rfl | go_simp | simp
        · -- 9: Op.load 37 (Operand.tmp 16)
          intro l hl vs W dn e1 e2 e3 hS hR hp
          have f5 : dn 5 = dn 5 := rfl
          have f10 : dn 10 = false := e3 10 (by kernel_rfl)
          have f15 : dn 15 = false := e3 15 (by kernel_rfl)
          have f20 : dn 20 = false := e3 20 (by kernel_rfl)
          have f25 : dn 25 = false := e3 25 (by kernel_rfl)
          have f28 : dn 28 = false := e3 28 (by kernel_rfl)
          replace hS : (fun W => (dn 28) = false → Rst bi b W (pick5 (dn 5) (dn 10) (dn 15) (dn 20) (dn 25) o0 o1 o2 o3 o4 o5) ∧ W.ownsRow B 86 5 u3 k xs ∧ B ≤ W.heap.size) W := hS
          rw [f10, f15, f20, f25, f28] at hS
          have g5 : (dn 5 || ((9 : Nat) == 5)) = dn 5 := Bool.or_false _
          have g10 : (dn 10 || ((9 : Nat) == 10)) = false := by rw [f10]; rfl
          have g15 : (dn 15 || ((9 : Nat) == 15)) = false := by rw [f15]; rfl
          have g20 : (dn 20 || ((9 : Nat) == 20)) = false := by rw [f20]; rfl
          have g25 : (dn 25 || ((9 : Nat) == 25)) = false := by rw [f25]; rfl
          have g28 : (dn 28 || ((9 : Nat) == 28)) = false := by rw [f28]; rfl
          refine OpGoal.imp (S1 := fun W => false = false → Rst bi b W (pick5 (dn 5) false false false false o0 o1 o2 o3 o4 o5) ∧ W.ownsRow B 86 5 u3 k xs ∧ B ≤ W.heap.size) (fun W' h => ?_) ?_
          · show (fun W => (dn 28 || ((9 : Nat) == 28)) = false → Rst bi b W (pick5 (dn 5 || ((9 : Nat) == 5)) (dn 10 || ((9 : Nat) == 10)) (dn 15 || ((9 : Nat) == 15)) (dn 20 || ((9 : Nat) == 20)) (dn 25 || ((9 : Nat) == 25)) o0 o1 o2 o3 o4 o5) ∧ W.ownsRow B 86 5 u3 k xs ∧ B ≤ W.heap.size) W'
            rw [g5, g10, g15, g20, g25, g28]
            exact h
          clear g5 g10 g15 g20 g25 g28 e1 e2 e3
          obtain rfl : l = [(6, 14), (7, 15), (8, 16)] := hl.symm.trans (by kernel_rfl)
          have p8 : vs 8 = _ := hp 8 (by decide) (by decide)
          clear hp hl
          refine opgoal (_) (some 17) rfl rfl fun K hK => ?_
          have hi0 := hI.out W hR
          refine Runs.mk ?_
          simp only [putAll]
          go_simp
          refine hK _ _ ?_ hS ⟨fun h => absurd h (by decide), fun h => absurd h (by decide), fun h => absurd h (by decide), fun h => absurd h (by decide), fun h => absurd h (by decide), fun h => absurd h (by decide), fun h5 h10 h15 h20 h25 h28 => ((fun w => Below.refl _ w) W)⟩ _ rfl rfl
          first | rfl | go_simp | simp
        · -- 10: Op.call { callee := Callee.value (Operand.func 85), args := #[Operand.tmp 17], argTypes := #[37] }
          intro l hl vs W dn e1 e2 e3 hS hR hp
          have f5 : dn 5 = true := e2 5 (by kernel_rfl)
          have f10 : dn 10 = false := e1
          have f15 : dn 15 = false := e3 15 (by kernel_rfl)
          have f20 : dn 20 = false := e3 20 (by kernel_rfl)
          have f25 : dn 25 = false := e3 25 (by kernel_rfl)
          have f28 : dn 28 = false := e3 28 (by kernel_rfl)
          replace hS : (fun W => (dn 28) = false → Rst bi b W (pick5 (dn 5) (dn 10) (dn 15) (dn 20) (dn 25) o0 o1 o2 o3 o4 o5) ∧ W.ownsRow B 86 5 u3 k xs ∧ B ≤ W.heap.size) W := hS
          rw [f5, f10, f15, f20, f25, f28] at hS
          have g5 : (dn 5 || ((10 : Nat) == 5)) = true := by rw [f5]; rfl
          have g10 : (dn 10 || ((10 : Nat) == 10)) = true := by rw [f10]; rfl
          have g15 : (dn 15 || ((10 : Nat) == 15)) = false := by rw [f15]; rfl
          have g20 : (dn 20 || ((10 : Nat) == 20)) = false := by rw [f20]; rfl
          have g25 : (dn 25 || ((10 : Nat) == 25)) = false := by rw [f25]; rfl
          have g28 : (dn 28 || ((10 : Nat) == 28)) = false := by rw [f28]; rfl
          refine OpGoal.imp (S1 := fun W => false = false → Rst bi b W (pick5 true true false false false o0 o1 o2 o3 o4 o5) ∧ W.ownsRow B 86 5 u3 k xs ∧ B ≤ W.heap.size) (fun W' h => ?_) ?_
          · show (fun W => (dn 28 || ((10 : Nat) == 28)) = false → Rst bi b W (pick5 (dn 5 || ((10 : Nat) == 5)) (dn 10 || ((10 : Nat) == 10)) (dn 15 || ((10 : Nat) == 15)) (dn 20 || ((10 : Nat) == 20)) (dn 25 || ((10 : Nat) == 25)) o0 o1 o2 o3 o4 o5) ∧ W.ownsRow B 86 5 u3 k xs ∧ B ≤ W.heap.size) W'
            rw [g5, g10, g15, g20, g25, g28]
            exact h
          clear g5 g10 g15 g20 g25 g28 e1 e2 e3
          obtain rfl : l = [(1, 9), (2, 10), (3, 11), (4, 12), (5, 13), (6, 14), (7, 15), (8, 16), (9, 17)] := hl.symm.trans (by kernel_rfl)
          have p9 : vs 9 = _ := hp 9 (by decide) (by decide)
          clear hp hl
          refine opgoal (_) (some 18) rfl rfl fun K hK => ?_
          refine Runs.mk ?_
          simp only [putAll]
          go_simp
          refine (num_read b o1.1 o1.2 W (hS rfl).1.rd hz1.out).mono ?_
          rintro e w' ⟨he, hr, hk⟩
          rw [hn2.out] at he
          subst he
          rw [hs2.out, hq2.out] at hr
          go_simp
          exact hK _ _ rfl (fun _ => ⟨(hS rfl).1.step hr hk, own_keep (hS rfl).2.1 hk (fun j hj => by have := hnb.out j hj; simpa using this), Nat.le_trans (hS rfl).2.2 hk.size⟩) ⟨fun h => absurd h (by decide), fun _ => hk, fun h => absurd h (by decide), fun h => absurd h (by decide), fun h => absurd h (by decide), fun h => absurd h (by decide), fun h5 h10 h15 h20 h25 h28 => absurd rfl h10⟩ _ rfl rfl
        · -- 11: Op.move (Operand.tmp 0)
          intro l hl vs W dn e1 e2 e3 hS hR hp
          have f5 : dn 5 = dn 5 := rfl
          have f10 : dn 10 = dn 10 := rfl
          have f15 : dn 15 = false := e3 15 (by kernel_rfl)
          have f20 : dn 20 = false := e3 20 (by kernel_rfl)
          have f25 : dn 25 = false := e3 25 (by kernel_rfl)
          have f28 : dn 28 = false := e3 28 (by kernel_rfl)
          replace hS : (fun W => (dn 28) = false → Rst bi b W (pick5 (dn 5) (dn 10) (dn 15) (dn 20) (dn 25) o0 o1 o2 o3 o4 o5) ∧ W.ownsRow B 86 5 u3 k xs ∧ B ≤ W.heap.size) W := hS
          rw [f15, f20, f25, f28] at hS
          have g5 : (dn 5 || ((11 : Nat) == 5)) = dn 5 := Bool.or_false _
          have g10 : (dn 10 || ((11 : Nat) == 10)) = dn 10 := Bool.or_false _
          have g15 : (dn 15 || ((11 : Nat) == 15)) = false := by rw [f15]; rfl
          have g20 : (dn 20 || ((11 : Nat) == 20)) = false := by rw [f20]; rfl
          have g25 : (dn 25 || ((11 : Nat) == 25)) = false := by rw [f25]; rfl
          have g28 : (dn 28 || ((11 : Nat) == 28)) = false := by rw [f28]; rfl
          refine OpGoal.imp (S1 := fun W => false = false → Rst bi b W (pick5 (dn 5) (dn 10) false false false o0 o1 o2 o3 o4 o5) ∧ W.ownsRow B 86 5 u3 k xs ∧ B ≤ W.heap.size) (fun W' h => ?_) ?_
          · show (fun W => (dn 28 || ((11 : Nat) == 28)) = false → Rst bi b W (pick5 (dn 5 || ((11 : Nat) == 5)) (dn 10 || ((11 : Nat) == 10)) (dn 15 || ((11 : Nat) == 15)) (dn 20 || ((11 : Nat) == 20)) (dn 25 || ((11 : Nat) == 25)) o0 o1 o2 o3 o4 o5) ∧ W.ownsRow B 86 5 u3 k xs ∧ B ≤ W.heap.size) W'
            rw [g5, g10, g15, g20, g25, g28]
            exact h
          clear g5 g10 g15 g20 g25 g28 e1 e2 e3
          obtain rfl : l = [] := hl.symm.trans (by kernel_rfl)
          clear hp hl
          refine opgoal (_) (some 19) rfl rfl fun K hK => ?_
          refine Runs.mk ?_
          simp only [putAll]
          go_simp
          refine hK _ _ ?_ hS ⟨fun h => absurd h (by decide), fun h => absurd h (by decide), fun h => absurd h (by decide), fun h => absurd h (by decide), fun h => absurd h (by decide), fun h => absurd h (by decide), fun h5 h10 h15 h20 h25 h28 => ((fun w => Below.refl _ w) W)⟩ _ rfl rfl
          first | rfl | go_simp | simp
        · -- 12: Op.nilCheck (Operand.tmp 19)
          intro l hl vs W dn e1 e2 e3 hS hR hp
          have f5 : dn 5 = dn 5 := rfl
          have f10 : dn 10 = dn 10 := rfl
          have f15 : dn 15 = false := e3 15 (by kernel_rfl)
          have f20 : dn 20 = false := e3 20 (by kernel_rfl)
          have f25 : dn 25 = false := e3 25 (by kernel_rfl)
          have f28 : dn 28 = false := e3 28 (by kernel_rfl)
          replace hS : (fun W => (dn 28) = false → Rst bi b W (pick5 (dn 5) (dn 10) (dn 15) (dn 20) (dn 25) o0 o1 o2 o3 o4 o5) ∧ W.ownsRow B 86 5 u3 k xs ∧ B ≤ W.heap.size) W := hS
          rw [f15, f20, f25, f28] at hS
          have g5 : (dn 5 || ((12 : Nat) == 5)) = dn 5 := Bool.or_false _
          have g10 : (dn 10 || ((12 : Nat) == 10)) = dn 10 := Bool.or_false _
          have g15 : (dn 15 || ((12 : Nat) == 15)) = false := by rw [f15]; rfl
          have g20 : (dn 20 || ((12 : Nat) == 20)) = false := by rw [f20]; rfl
          have g25 : (dn 25 || ((12 : Nat) == 25)) = false := by rw [f25]; rfl
          have g28 : (dn 28 || ((12 : Nat) == 28)) = false := by rw [f28]; rfl
          refine OpGoal.imp (S1 := fun W => false = false → Rst bi b W (pick5 (dn 5) (dn 10) false false false o0 o1 o2 o3 o4 o5) ∧ W.ownsRow B 86 5 u3 k xs ∧ B ≤ W.heap.size) (fun W' h => ?_) ?_
          · show (fun W => (dn 28 || ((12 : Nat) == 28)) = false → Rst bi b W (pick5 (dn 5 || ((12 : Nat) == 5)) (dn 10 || ((12 : Nat) == 10)) (dn 15 || ((12 : Nat) == 15)) (dn 20 || ((12 : Nat) == 20)) (dn 25 || ((12 : Nat) == 25)) o0 o1 o2 o3 o4 o5) ∧ W.ownsRow B 86 5 u3 k xs ∧ B ≤ W.heap.size) W'
            rw [g5, g10, g15, g20, g25, g28]
            exact h
          clear g5 g10 g15 g20 g25 g28 e1 e2 e3
          obtain rfl : l = [(11, 19)] := hl.symm.trans (by kernel_rfl)
          have p11 : vs 11 = _ := hp 11 (by decide) (by decide)
          clear hp hl
          refine opgoal (_) (some 20) rfl rfl fun K hK => ?_
          refine Runs.mk ?_
          simp only [putAll]
          go_simp
          refine hK _ _ ?_ hS ⟨fun h => absurd h (by decide), fun h => absurd h (by decide), fun h => absurd h (by decide), fun h => absurd h (by decide), fun h => absurd h (by decide), fun h => absurd h (by decide), fun h5 h10 h15 h20 h25 h28 => ((fun w => Below.refl _ w) W)⟩ _ rfl rfl
          first | rfl | go_simp | simp
        · -- 13: Op.fieldAddr 78 (Operand.tmp 20) 0
          intro l hl vs W dn e1 e2 e3 hS hR hp
          have f5 : dn 5 = dn 5 := rfl
          have f10 : dn 10 = dn 10 := rfl
          have f15 : dn 15 = false := e3 15 (by kernel_rfl)
          have f20 : dn 20 = false := e3 20 (by kernel_rfl)
          have f25 : dn 25 = false := e3 25 (by kernel_rfl)
          have f28 : dn 28 = false := e3 28 (by kernel_rfl)
          replace hS : (fun W => (dn 28) = false → Rst bi b W (pick5 (dn 5) (dn 10) (dn 15) (dn 20) (dn 25) o0 o1 o2 o3 o4 o5) ∧ W.ownsRow B 86 5 u3 k xs ∧ B ≤ W.heap.size) W := hS
          rw [f15, f20, f25, f28] at hS
          have g5 : (dn 5 || ((13 : Nat) == 5)) = dn 5 := Bool.or_false _
          have g10 : (dn 10 || ((13 : Nat) == 10)) = dn 10 := Bool.or_false _
          have g15 : (dn 15 || ((13 : Nat) == 15)) = false := by rw [f15]; rfl
          have g20 : (dn 20 || ((13 : Nat) == 20)) = false := by rw [f20]; rfl
          have g25 : (dn 25 || ((13 : Nat) == 25)) = false := by rw [f25]; rfl
          have g28 : (dn 28 || ((13 : Nat) == 28)) = false := by rw [f28]; rfl
          refine OpGoal.imp (S1 := fun W => false = false → Rst bi b W (pick5 (dn 5) (dn 10) false false false o0 o1 o2 o3 o4 o5) ∧ W.ownsRow B 86 5 u3 k xs ∧ B ≤ W.heap.size) (fun W' h => ?_) ?_
          · show (fun W => (dn 28 || ((13 : Nat) == 28)) = false → Rst bi b W (pick5 (dn 5 || ((13 : Nat) == 5)) (dn 10 || ((13 : Nat) == 10)) (dn 15 || ((13 : Nat) == 15)) (dn 20 || ((13 : Nat) == 20)) (dn 25 || ((13 : Nat) == 25)) o0 o1 o2 o3 o4 o5) ∧ W.ownsRow B 86 5 u3 k xs ∧ B ≤ W.heap.size) W'
            rw [g5, g10, g15, g20, g25, g28]
            exact h
          clear g5 g10 g15 g20 g25 g28 e1 e2 e3
          obtain rfl : l = [(11, 19), (12, 20)] := hl.symm.trans (by kernel_rfl)
          have p12 : vs 12 = _ := hp 12 (by decide) (by decide)
          clear hp hl
          refine opgoal (_) (some 21) rfl rfl fun K hK => ?_
          refine Runs.mk ?_
          simp only [putAll]
          go_simp
          refine hK _ _ ?_ hS ⟨fun h => absurd h (by decide), fun h => absurd h (by decide), fun h => absurd h (by decide), fun h => absurd h (by decide), fun h => absurd h (by decide), fun h => absurd h (by decide), fun h5 h10 h15 h20 h25 h28 => ((fun w => Below.refl _ w) W)⟩ _ rfl rfl
          first | rfl | go_simp | simp
        · -- 14: Op.load 37 (Operand.tmp 21)
          intro l hl vs W dn e1 e2 e3 hS hR hp
          have f5 : dn 5 = dn 5 := rfl
          have f10 : dn 10 = dn 10 := rfl
          have f15 : dn 15 = false := e3 15 (by kernel_rfl)
          have f20 : dn 20 = false := e3 20 (by kernel_rfl)
          have f25 : dn 25 = false := e3 25 (by kernel_rfl)
          have f28 : dn 28 = false := e3 28 (by kernel_rfl)
          replace hS : (fun W => (dn 28) = false → Rst bi b W (pick5 (dn 5) (dn 10) (dn 15) (dn 20) (dn 25) o0 o1 o2 o3 o4 o5) ∧ W.ownsRow B 86 5 u3 k xs ∧ B ≤ W.heap.size) W := hS
          rw [f15, f20, f25, f28] at hS
          have g5 : (dn 5 || ((14 : Nat) == 5)) = dn 5 := Bool.or_false _
          have g10 : (dn 10 || ((14 : Nat) == 10)) = dn 10 := Bool.or_false _
          have g15 : (dn 15 || ((14 : Nat) == 15)) = false := by rw [f15]; rfl
          have g20 : (dn 20 || ((14 : Nat) == 20)) = false := by rw [f20]; rfl
          have g25 : (dn 25 || ((14 : Nat) == 25)) = false := by rw [f25]; rfl
          have g28 : (dn 28 || ((14 : Nat) == 28)) = false := by rw [f28]; rfl
          refine OpGoal.imp (S1 := fun W => false = false → Rst bi b W (pick5 (dn 5) (dn 10) false false false o0 o1 o2 o3 o4 o5) ∧ W.ownsRow B 86 5 u3 k xs ∧ B ≤ W.heap.size) (fun W' h => ?_) ?_
          · show (fun W => (dn 28 || ((14 : Nat) == 28)) = false → Rst bi b W (pick5 (dn 5 || ((14 : Nat) == 5)) (dn 10 || ((14 : Nat) == 10)) (dn 15 || ((14 : Nat) == 15)) (dn 20 || ((14 : Nat) == 20)) (dn 25 || ((14 : Nat) == 25)) o0 o1 o2 o3 o4 o5) ∧ W.ownsRow B 86 5 u3 k xs ∧ B ≤ W.heap.size) W'
            rw [g5, g10, g15, g20, g25, g28]
            exact h
          clear g5 g10 g15 g20 g25 g28 e1 e2 e3
          obtain rfl : l = [(11, 19), (12, 20), (13, 21)] := hl.symm.trans (by kernel_rfl)
          have p13 : vs 13 = _ := hp 13 (by decide) (by decide)
          clear hp hl
          refine opgoal (_) (some 22) rfl rfl fun K hK => ?_
          have hi0 := hI.out W hR
          refine Runs.mk ?_
          simp only [putAll]
          go_simp
          refine hK _ _ ?_ hS ⟨fun h => absurd h (by decide), fun h => absurd h (by decide), fun h => absurd h (by decide), fun h => absurd h (by decide), fun h => absurd h (by decide), fun h => absurd h (by decide), fun h5 h10 h15 h20 h25 h28 => ((fun w => Below.refl _ w) W)⟩ _ rfl rfl
          first | rfl | go_simp | simp
        · -- 15: Op.call { callee := Callee.value (Operand.func 85), args := #[Operand.tmp 22], argTypes := #[37] }
          intro l hl vs W dn e1 e2 e3 hS hR hp
          have f5 : dn 5 = true := e2 5 (by kernel_rfl)
          have f10 : dn 10 = true := e2 10 (by kernel_rfl)
          have f15 : dn 15 = false := e1
          have f20 : dn 20 = false := e3 20 (by kernel_rfl)
          have f25 : dn 25 = false := e3 25 (by kernel_rfl)
          have f28 : dn 28 = false := e3 28 (by kernel_rfl)
          replace hS : (fun W => (dn 28) = false → Rst bi b W (pick5 (dn 5) (dn 10) (dn 15) (dn 20) (dn 25) o0 o1 o2 o3 o4 o5) ∧ W.ownsRow B 86 5 u3 k xs ∧ B ≤ W.heap.size) W := hS
          rw [f5, f10, f15, f20, f25, f28] at hS
          have g5 : (dn 5 || ((15 : Nat) == 5)) = true := by rw [f5]; rfl
          have g10 : (dn 10 || ((15 : Nat) == 10)) = true := by rw [f10]; rfl
          have g15 : (dn 15 || ((15 : Nat) == 15)) = true := by rw [f15]; rfl
          have g20 : (dn 20 || ((15 : Nat) == 20)) = false := by rw [f20]; rfl
          have g25 : (dn 25 || ((15 : Nat) == 25)) = false := by rw [f25]; rfl
          have g28 : (dn 28 || ((15 : Nat) == 28)) = false := by rw [f28]; rfl
          refine OpGoal.imp (S1 := fun W => false = false → Rst bi b W (pick5 true true true false false o0 o1 o2 o3 o4 o5) ∧ W.ownsRow B 86 5 u3 k xs ∧ B ≤ W.heap.size) (fun W' h => ?_) ?_
          · show (fun W => (dn 28 || ((15 : Nat) == 28)) = false → Rst bi b W (pick5 (dn 5 || ((15 : Nat) == 5)) (dn 10 || ((15 : Nat) == 10)) (dn 15 || ((15 : Nat) == 15)) (dn 20 || ((15 : Nat) == 20)) (dn 25 || ((15 : Nat) == 25)) o0 o1 o2 o3 o4 o5) ∧ W.ownsRow B 86 5 u3 k xs ∧ B ≤ W.heap.size) W'
            rw [g5, g10, g15, g20, g25, g28]
            exact h
          clear g5 g10 g15 g20 g25 g28 e1 e2 e3
          obtain rfl : l = [(1, 9), (2, 10), (3, 11), (4, 12), (5, 13), (6, 14), (7, 15), (8, 16), (9, 17), (10, 18), (11, 19), (12, 20), (13, 21), (14, 22)] := hl.symm.trans (by kernel_rfl)
          have p14 : vs 14 = _ := hp 14 (by decide) (by decide)
          clear hp hl
          refine opgoal (_) (some 23) rfl rfl fun K hK => ?_
          refine Runs.mk ?_
          simp only [putAll]
          go_simp
          refine (num_read b o2.1 o2.2 W (hS rfl).1.rd hz2.out).mono ?_
          rintro e w' ⟨he, hr, hk⟩
          rw [hn3.out] at he
          subst he
          rw [hs3.out, hq3.out] at hr
          go_simp
          exact hK _ _ rfl (fun _ => ⟨(hS rfl).1.step hr hk, own_keep (hS rfl).2.1 hk (fun j hj => by have := hnb.out j hj; simpa using this), Nat.le_trans (hS rfl).2.2 hk.size⟩) ⟨fun h => absurd h (by decide), fun h => absurd h (by decide), fun _ => hk, fun h => absurd h (by decide), fun h => absurd h (by decide), fun h => absurd h (by decide), fun h5 h10 h15 h20 h25 h28 => absurd rfl h15⟩ _ rfl rfl
        · -- 16: Op.move (Operand.tmp 0)
          intro l hl vs W dn e1 e2 e3 hS hR hp
          have f5 : dn 5 = dn 5 := rfl
          have f10 : dn 10 = dn 10 := rfl
          have f15 : dn 15 = dn 15 := rfl
          have f20 : dn 20 = false := e3 20 (by kernel_rfl)
          have f25 : dn 25 = false := e3 25 (by kernel_rfl)
          have f28 : dn 28 = false := e3 28 (by kernel_rfl)
          replace hS : (fun W => (dn 28) = false → Rst bi b W (pick5 (dn 5) (dn 10) (dn 15) (dn 20) (dn 25) o0 o1 o2 o3 o4 o5) ∧ W.ownsRow B 86 5 u3 k xs ∧ B ≤ W.heap.size) W := hS
          rw [f20, f25, f28] at hS
          have g5 : (dn 5 || ((16 : Nat) == 5)) = dn 5 := Bool.or_false _
          have g10 : (dn 10 || ((16 : Nat) == 10)) = dn 10 := Bool.or_false _
          have g15 : (dn 15 || ((16 : Nat) == 15)) = dn 15 := Bool.or_false _
          have g20 : (dn 20 || ((16 : Nat) == 20)) = false := by rw [f20]; rfl
          have g25 : (dn 25 || ((16 : Nat) == 25)) = false := by rw [f25]; rfl
          have g28 : (dn 28 || ((16 : Nat) == 28)) = false := by rw [f28]; rfl
          refine OpGoal.imp (S1 := fun W => false = false → Rst bi b W (pick5 (dn 5) (dn 10) (dn 15) false false o0 o1 o2 o3 o4 o5) ∧ W.ownsRow B 86 5 u3 k xs ∧ B ≤ W.heap.size) (fun W' h => ?_) ?_
          · show (fun W => (dn 28 || ((16 : Nat) == 28)) = false → Rst bi b W (pick5 (dn 5 || ((16 : Nat) == 5)) (dn 10 || ((16 : Nat) == 10)) (dn 15 || ((16 : Nat) == 15)) (dn 20 || ((16 : Nat) == 20)) (dn 25 || ((16 : Nat) == 25)) o0 o1 o2 o3 o4 o5) ∧ W.ownsRow B 86 5 u3 k xs ∧ B ≤ W.heap.size) W'
            rw [g5, g10, g15, g20, g25, g28]
            exact h
          clear g5 g10 g15 g20 g25 g28 e1 e2 e3
          obtain rfl : l = [] := hl.symm.trans (by kernel_rfl)
          clear hp hl
          refine opgoal (_) (some 24) rfl rfl fun K hK => ?_
          refine Runs.mk ?_
          simp only [putAll]
          go_simp
          refine hK _ _ ?_ hS ⟨fun h => absurd h (by decide), fun h => absurd h (by decide), fun h => absurd h (by decide), fun h => absurd h (by decide), fun h => absurd h (by decide), fun h => absurd h (by decide), fun h5 h10 h15 h20 h25 h28 => ((fun w => Below.refl _ w) W)⟩ _ rfl rfl
          first | rfl | go_simp | simp
        · -- 17: Op.nilCheck (Operand.tmp 24)
          intro l hl vs W dn e1 e2 e3 hS hR hp
          have f5 : dn 5 = dn 5 := rfl
          have f10 : dn 10 = dn 10 := rfl
          have f15 : dn 15 = dn 15 := rfl
          have f20 : dn 20 = false := e3 20 (by kernel_rfl)
          have f25 : dn 25 = false := e3 25 (by kernel_rfl)
          have f28 : dn 28 = false := e3 28 (by kernel_rfl)
          replace hS : (fun W => (dn 28) = false → Rst bi b W (pick5 (dn 5) (dn 10) (dn 15) (dn 20) (dn 25) o0 o1 o2 o3 o4 o5) ∧ W.ownsRow B 86 5 u3 k xs ∧ B ≤ W.heap.size) W := hS
          rw [f20, f25, f28] at hS
          have g5 : (dn 5 || ((17 : Nat) == 5)) = dn 5 := Bool.or_false _
          have g10 : (dn 10 || ((17 : Nat) == 10)) = dn 10 := Bool.or_false _
          have g15 : (dn 15 || ((17 : Nat) == 15)) = dn 15 := Bool.or_false _
          have g20 : (dn 20 || ((17 : Nat) == 20)) = false := by rw [f20]; rfl
          have g25 : (dn 25 || ((17 : Nat) == 25)) = false := by rw [f25]; rfl
          have g28 : (dn 28 || ((17 : Nat) == 28)) = false := by rw [f28]; rfl
          refine OpGoal.imp (S1 := fun W => false = false → Rst bi b W (pick5 (dn 5) (dn 10) (dn 15) false false o0 o1 o2 o3 o4 o5) ∧ W.ownsRow B 86 5 u3 k xs ∧ B ≤ W.heap.size) (fun W' h => ?_) ?_
          · show (fun W => (dn 28 || ((17 : Nat) == 28)) = false → Rst bi b W (pick5 (dn 5 || ((17 : Nat) == 5)) (dn 10 || ((17 : Nat) == 10)) (dn 15 || ((17 : Nat) == 15)) (dn 20 || ((17 : Nat) == 20)) (dn 25 || ((17 : Nat) == 25)) o0 o1 o2 o3 o4 o5) ∧ W.ownsRow B 86 5 u3 k xs ∧ B ≤ W.heap.size) W'
            rw [g5, g10, g15, g20, g25, g28]
            exact h
          clear g5 g10 g15 g20 g25 g28 e1 e2 e3
          obtain rfl : l = [(16, 24)] := hl.symm.trans (by kernel_rfl)
          have p16 : vs 16 = _ := hp 16 (by decide) (by decide)
          clear hp hl
          refine opgoal (_) (some 25) rfl rfl fun K hK => ?_
          refine Runs.mk ?_
          simp only [putAll]
          go_simp
          refine hK _ _ ?_ hS ⟨fun h => absurd h (by decide), fun h => absurd h (by decide), fun h => absurd h (by decide), fun h => absurd h (by decide), fun h => absurd h (by decide), fun h => absurd h (by decide), fun h5 h10 h15 h20 h25 h28 => ((fun w => Below.refl _ w) W)⟩ _ rfl rfl
          first | rfl | go_simp | simp
        · -- 18: Op.fieldAddr 78 (Operand.tmp 25) 0
          intro l hl vs W dn e1 e2 e3 hS hR hp
          have f5 : dn 5 = dn 5 := rfl
          have f10 : dn 10 = dn 10 := rfl
          have f15 : dn 15 = dn 15 := rfl
          have f20 : dn 20 = false := e3 20 (by kernel_rfl)
          have f25 : dn 25 = false := e3 25 (by kernel_rfl)
          have f28 : dn 28 = false := e3 28 (by kernel_rfl)
          replace hS : (fun W => (dn 28) = false → Rst bi b W (pick5 (dn 5) (dn 10) (dn 15) (dn 20) (dn 25) o0 o1 o2 o3 o4 o5) ∧ W.ownsRow B 86 5 u3 k xs ∧ B ≤ W.heap.size) W := hS
          rw [f20, f25, f28] at hS
          have g5 : (dn 5 || ((18 : Nat) == 5)) = dn 5 := Bool.or_false _
          have g10 : (dn 10 || ((18 : Nat) == 10)) = dn 10 := Bool.or_false _
          have g15 : (dn 15 || ((18 : Nat) == 15)) = dn 15 := Bool.or_false _
          have g20 : (dn 20 || ((18 : Nat) == 20)) = false := by rw [f20]; rfl
          have g25 : (dn 25 || ((18 : Nat) == 25)) = false := by rw [f25]; rfl
          have g28 : (dn 28 || ((18 : Nat) == 28)) = false := by rw [f28]; rfl
          refine OpGoal.imp (S1 := fun W => false = false → Rst bi b W (pick5 (dn 5) (dn 10) (dn 15) false false o0 o1 o2 o3 o4 o5) ∧ W.ownsRow B 86 5 u3 k xs ∧ B ≤ W.heap.size) (fun W' h => ?_) ?_
          · show (fun W => (dn 28 || ((18 : Nat) == 28)) = false → Rst bi b W (pick5 (dn 5 || ((18 : Nat) == 5)) (dn 10 || ((18 : Nat) == 10)) (dn 15 || ((18 : Nat) == 15)) (dn 20 || ((18 : Nat) == 20)) (dn 25 || ((18 : Nat) == 25)) o0 o1 o2 o3 o4 o5) ∧ W.ownsRow B 86 5 u3 k xs ∧ B ≤ W.heap.size) W'
            rw [g5, g10, g15, g20, g25, g28]
            exact h
          clear g5 g10 g15 g20 g25 g28 e1 e2 e3
          obtain rfl : l = [(16, 24), (17, 25)] := hl.symm.trans (by kernel_rfl)
          have p17 : vs 17 = _ := hp 17 (by decide) (by decide)
          clear hp hl
          refine opgoal (_) (some 26) rfl rfl fun K hK => ?_
          refine Runs.mk ?_
          simp only [putAll]
          go_simp
          refine hK _ _ ?_ hS ⟨fun h => absurd h (by decide), fun h => absurd h (by decide), fun h => absurd h (by decide), fun h => absurd h (by decide), fun h => absurd h (by decide), fun h => absurd h (by decide), fun h5 h10 h15 h20 h25 h28 => ((fun w => Below.refl _ w) W)⟩ _ rfl rfl
          first | rfl | go_simp | simp
        · -- 19: Op.load 37 (Operand.tmp 26)
          intro l hl vs W dn e1 e2 e3 hS hR hp
          have f5 : dn 5 = dn 5 := rfl
          have f10 : dn 10 = dn 10 := rfl
          have f15 : dn 15 = dn 15 := rfl
          have f20 : dn 20 = false := e3 20 (by kernel_rfl)
          have f25 : dn 25 = false := e3 25 (by kernel_rfl)
          have f28 : dn 28 = false := e3 28 (by kernel_rfl)
          replace hS : (fun W => (dn 28) = false → Rst bi b W (pick5 (dn 5) (dn 10) (dn 15) (dn 20) (dn 25) o0 o1 o2 o3 o4 o5) ∧ W.ownsRow B 86 5 u3 k xs ∧ B ≤ W.heap.size) W := hS
          rw [f20, f25, f28] at hS
          have g5 : (dn 5 || ((19 : Nat) == 5)) = dn 5 := Bool.or_false _
          have g10 : (dn 10 || ((19 : Nat) == 10)) = dn 10 := Bool.or_false _
          have g15 : (dn 15 || ((19 : Nat) == 15)) = dn 15 := Bool.or_false _
          have g20 : (dn 20 || ((19 : Nat) == 20)) = false := by rw [f20]; rfl
          have g25 : (dn 25 || ((19 : Nat) == 25)) = false := by rw [f25]; rfl
          have g28 : (dn 28 || ((19 : Nat) == 28)) = false := by rw [f28]; rfl
          refine OpGoal.imp (S1 := fun W => false = false → Rst bi b W (pick5 (dn 5) (dn 10) (dn 15) false false o0 o1 o2 o3 o4 o5) ∧ W.ownsRow B 86 5 u3 k xs ∧ B ≤ W.heap.size) (fun W' h => ?_) ?_
          · show (fun W => (dn 28 || ((19 : Nat) == 28)) = false → Rst bi b W (pick5 (dn 5 || ((19 : Nat) == 5)) (dn 10 || ((19 : Nat) == 10)) (dn 15 || ((19 : Nat) == 15)) (dn 20 || ((19 : Nat) == 20)) (dn 25 || ((19 : Nat) == 25)) o0 o1 o2 o3 o4 o5) ∧ W.ownsRow B 86 5 u3 k xs ∧ B ≤ W.heap.size) W'
            rw [g5, g10, g15, g20, g25, g28]
            exact h
          clear g5 g10 g15 g20 g25 g28 e1 e2 e3
          obtain rfl : l = [(16, 24), (17, 25), (18, 26)] := hl.symm.trans (by kernel_rfl)
          have p18 : vs 18 = _ := hp 18 (by decide) (by decide)
          clear hp hl
          refine opgoal (_) (some 27) rfl rfl fun K hK => ?_
          have hi0 := hI.out W hR
          refine Runs.mk ?_
          simp only [putAll]
          go_simp
          refine hK _ _ ?_ hS ⟨fun h => absurd h (by decide), fun h => absurd h (by decide), fun h => absurd h (by decide), fun h => absurd h (by decide), fun h => absurd h (by decide), fun h => absurd h (by decide), fun h5 h10 h15 h20 h25 h28 => ((fun w => Below.refl _ w) W)⟩ _ rfl rfl
          first | rfl | go_simp | simp
        · -- 20: Op.call { callee := Callee.value (Operand.func 83), args := #[Operand.tmp 27], argTypes := #[37] }
          intro l hl vs W dn e1 e2 e3 hS hR hp
          have f5 : dn 5 = true := e2 5 (by kernel_rfl)
          have f10 : dn 10 = true := e2 10 (by kernel_rfl)
          have f15 : dn 15 = true := e2 15 (by kernel_rfl)
          have f20 : dn 20 = false := e1
          have f25 : dn 25 = false := e3 25 (by kernel_rfl)
          have f28 : dn 28 = false := e3 28 (by kernel_rfl)
          replace hS : (fun W => (dn 28) = false → Rst bi b W (pick5 (dn 5) (dn 10) (dn 15) (dn 20) (dn 25) o0 o1 o2 o3 o4 o5) ∧ W.ownsRow B 86 5 u3 k xs ∧ B ≤ W.heap.size) W := hS
          rw [f5, f10, f15, f20, f25, f28] at hS
          have g5 : (dn 5 || ((20 : Nat) == 5)) = true := by rw [f5]; rfl
          have g10 : (dn 10 || ((20 : Nat) == 10)) = true := by rw [f10]; rfl
          have g15 : (dn 15 || ((20 : Nat) == 15)) = true := by rw [f15]; rfl
          have g20 : (dn 20 || ((20 : Nat) == 20)) = true := by rw [f20]; rfl
          have g25 : (dn 25 || ((20 : Nat) == 25)) = false := by rw [f25]; rfl
          have g28 : (dn 28 || ((20 : Nat) == 28)) = false := by rw [f28]; rfl
          refine OpGoal.imp (S1 := fun W => false = false → Rst bi b W (pick5 true true true true false o0 o1 o2 o3 o4 o5) ∧ W.ownsRow B 86 5 u3 k xs ∧ B ≤ W.heap.size) (fun W' h => ?_) ?_
          · show (fun W => (dn 28 || ((20 : Nat) == 28)) = false → Rst bi b W (pick5 (dn 5 || ((20 : Nat) == 5)) (dn 10 || ((20 : Nat) == 10)) (dn 15 || ((20 : Nat) == 15)) (dn 20 || ((20 : Nat) == 20)) (dn 25 || ((20 : Nat) == 25)) o0 o1 o2 o3 o4 o5) ∧ W.ownsRow B 86 5 u3 k xs ∧ B ≤ W.heap.size) W'
            rw [g5, g10, g15, g20, g25, g28]
            exact h
          clear g5 g10 g15 g20 g25 g28 e1 e2 e3
          obtain rfl : l = [(1, 9), (2, 10), (3, 11), (4, 12), (5, 13), (6, 14), (7, 15), (8, 16), (9, 17), (10, 18), (11, 19), (12, 20), (13, 21), (14, 22), (15, 23), (16, 24), (17, 25), (18, 26), (19, 27)] := hl.symm.trans (by kernel_rfl)
          have p19 : vs 19 = _ := hp 19 (by decide) (by decide)
          clear hp hl
          refine opgoal (_) (some 28) rfl rfl fun K hK => ?_
          refine Runs.mk ?_
          simp only [putAll]
          go_simp
          refine (bool_read b o3.1 o3.2 W (hS rfl).1.rd hz3.out).mono ?_
          rintro e w' ⟨he, hr, hk⟩
          rw [hn4.out] at he
          subst he
          rw [hs4.out, hq4.out] at hr
          go_simp
          exact hK _ _ rfl (fun _ => ⟨(hS rfl).1.step hr hk, own_keep (hS rfl).2.1 hk (fun j hj => by have := hnb.out j hj; simpa using this), Nat.le_trans (hS rfl).2.2 hk.size⟩) ⟨fun h => absurd h (by decide), fun h => absurd h (by decide), fun h => absurd h (by decide), fun _ => hk, fun h => absurd h (by decide), fun h => absurd h (by decide), fun h5 h10 h15 h20 h25 h28 => absurd rfl h20⟩ _ rfl rfl
        · -- 21: Op.move (Operand.tmp 0)
          intro l hl vs W dn e1 e2 e3 hS hR hp
          have f5 : dn 5 = dn 5 := rfl
          have f10 : dn 10 = dn 10 := rfl
          have f15 : dn 15 = dn 15 := rfl
          have f20 : dn 20 = dn 20 := rfl
          have f25 : dn 25 = false := e3 25 (by kernel_rfl)
          have f28 : dn 28 = false := e3 28 (by kernel_rfl)
          replace hS : (fun W => (dn 28) = false → Rst bi b W (pick5 (dn 5) (dn 10) (dn 15) (dn 20) (dn 25) o0 o1 o2 o3 o4 o5) ∧ W.ownsRow B 86 5 u3 k xs ∧ B ≤ W.heap.size) W := hS
          rw [f25, f28] at hS
          have g5 : (dn 5 || ((21 : Nat) == 5)) = dn 5 := Bool.or_false _
          have g10 : (dn 10 || ((21 : Nat) == 10)) = dn 10 := Bool.or_false _
          have g15 : (dn 15 || ((21 : Nat) == 15)) = dn 15 := Bool.or_false _
          have g20 : (dn 20 || ((21 : Nat) == 20)) = dn 20 := Bool.or_false _
          have g25 : (dn 25 || ((21 : Nat) == 25)) = false := by rw [f25]; rfl
          have g28 : (dn 28 || ((21 : Nat) == 28)) = false := by rw [f28]; rfl
          refine OpGoal.imp (S1 := fun W => false = false → Rst bi b W (pick5 (dn 5) (dn 10) (dn 15) (dn 20) false o0 o1 o2 o3 o4 o5) ∧ W.ownsRow B 86 5 u3 k xs ∧ B ≤ W.heap.size) (fun W' h => ?_) ?_
          · show (fun W => (dn 28 || ((21 : Nat) == 28)) = false → Rst bi b W (pick5 (dn 5 || ((21 : Nat) == 5)) (dn 10 || ((21 : Nat) == 10)) (dn 15 || ((21 : Nat) == 15)) (dn 20 || ((21 : Nat) == 20)) (dn 25 || ((21 : Nat) == 25)) o0 o1 o2 o3 o4 o5) ∧ W.ownsRow B 86 5 u3 k xs ∧ B ≤ W.heap.size) W'
            rw [g5, g10, g15, g20, g25, g28]
            exact h
          clear g5 g10 g15 g20 g25 g28 e1 e2 e3
          obtain rfl : l = [] := hl.symm.trans (by kernel_rfl)
          clear hp hl
          refine opgoal (_) (some 29) rfl rfl fun K hK => ?_
          refine Runs.mk ?_
          simp only [putAll]
          go_simp
          refine hK _ _ ?_ hS ⟨fun h => absurd h (by decide), fun h => absurd h (by decide), fun h => absurd h (by decide), fun h => absurd h (by decide), fun h => absurd h (by decide), fun h => absurd h (by decide), fun h5 h10 h15 h20 h25 h28 => ((fun w => Below.refl _ w) W)⟩ _ rfl rfl
          first | rfl | go_simp | simp
        · -- 22: Op.nilCheck (Operand.tmp 29)
          intro l hl vs W dn e1 e2 e3 hS hR hp
          have f5 : dn 5 = dn 5 := rfl
          have f10 : dn 10 = dn 10 := rfl
          have f15 : dn 15 = dn 15 := rfl
          have f20 : dn 20 = dn 20 := rfl
          have f25 : dn 25 = false := e3 25 (by kernel_rfl)
          have f28 : dn 28 = false := e3 28 (by kernel_rfl)
          replace hS : (fun W => (dn 28) = false → Rst bi b W (pick5 (dn 5) (dn 10) (dn 15) (dn 20) (dn 25) o0 o1 o2 o3 o4 o5) ∧ W.ownsRow B 86 5 u3 k xs ∧ B ≤ W.heap.size) W := hS
          rw [f25, f28] at hS
          have g5 : (dn 5 || ((22 : Nat) == 5)) = dn 5 := Bool.or_false _
          have g10 : (dn 10 || ((22 : Nat) == 10)) = dn 10 := Bool.or_false _
          have g15 : (dn 15 || ((22 : Nat) == 15)) = dn 15 := Bool.or_false _
          have g20 : (dn 20 || ((22 : Nat) == 20)) = dn 20 := Bool.or_false _
          have g25 : (dn 25 || ((22 : Nat) == 25)) = false := by rw [f25]; rfl
          have g28 : (dn 28 || ((22 : Nat) == 28)) = false := by rw [f28]; rfl
          refine OpGoal.imp (S1 := fun W => false = false → Rst bi b W (pick5 (dn 5) (dn 10) (dn 15) (dn 20) false o0 o1 o2 o3 o4 o5) ∧ W.ownsRow B 86 5 u3 k xs ∧ B ≤ W.heap.size) (fun W' h => ?_) ?_
          · show (fun W => (dn 28 || ((22 : Nat) == 28)) = false → Rst bi b W (pick5 (dn 5 || ((22 : Nat) == 5)) (dn 10 || ((22 : Nat) == 10)) (dn 15 || ((22 : Nat) == 15)) (dn 20 || ((22 : Nat) == 20)) (dn 25 || ((22 : Nat) == 25)) o0 o1 o2 o3 o4 o5) ∧ W.ownsRow B 86 5 u3 k xs ∧ B ≤ W.heap.size) W'
            rw [g5, g10, g15, g20, g25, g28]
            exact h
          clear g5 g10 g15 g20 g25 g28 e1 e2 e3
          obtain rfl : l = [(21, 29)] := hl.symm.trans (by kernel_rfl)
          have p21 : vs 21 = _ := hp 21 (by decide) (by decide)
          clear hp hl
          refine opgoal (_) (some 30) rfl rfl fun K hK => ?_
          refine Runs.mk ?_
          simp only [putAll]
          go_simp
          refine hK _ _ ?_ hS ⟨fun h => absurd h (by decide), fun h => absurd h (by decide), fun h => absurd h (by decide), fun h => absurd h (by decide), fun h => absurd h (by decide), fun h => absurd h (by decide), fun h5 h10 h15 h20 h25 h28 => ((fun w => Below.refl _ w) W)⟩ _ rfl rfl
          first | rfl | go_simp | simp
        · -- 23: Op.fieldAddr 78 (Operand.tmp 30) 0
          intro l hl vs W dn e1 e2 e3 hS hR hp
          have f5 : dn 5 = dn 5 := rfl
          have f10 : dn 10 = dn 10 := rfl
          have f15 : dn 15 = dn 15 := rfl
          have f20 : dn 20 = dn 20 := rfl
          have f25 : dn 25 = false := e3 25 (by kernel_rfl)
          have f28 : dn 28 = false := e3 28 (by kernel_rfl)
          replace hS : (fun W => (dn 28) = false → Rst bi b W (pick5 (dn 5) (dn 10) (dn 15) (dn 20) (dn 25) o0 o1 o2 o3 o4 o5) ∧ W.ownsRow B 86 5 u3 k xs ∧ B ≤ W.heap.size) W := hS
          rw [f25, f28] at hS
          have g5 : (dn 5 || ((23 : Nat) == 5)) = dn 5 := Bool.or_false _
          have g10 : (dn 10 || ((23 : Nat) == 10)) = dn 10 := Bool.or_false _
          have g15 : (dn 15 || ((23 : Nat) == 15)) = dn 15 := Bool.or_false _
          have g20 : (dn 20 || ((23 : Nat) == 20)) = dn 20 := Bool.or_false _
          have g25 : (dn 25 || ((23 : Nat) == 25)) = false := by rw [f25]; rfl
          have g28 : (dn 28 || ((23 : Nat) == 28)) = false := by rw [f28]; rfl
          refine OpGoal.imp (S1 := fun W => false = false → Rst bi b W (pick5 (dn 5) (dn 10) (dn 15) (dn 20) false o0 o1 o2 o3 o4 o5) ∧ W.ownsRow B 86 5 u3 k xs ∧ B ≤ W.heap.size) (fun W' h => ?_) ?_
          · show (fun W => (dn 28 || ((23 : Nat) == 28)) = false → Rst bi b W (pick5 (dn 5 || ((23 : Nat) == 5)) (dn 10 || ((23 : Nat) == 10)) (dn 15 || ((23 : Nat) == 15)) (dn 20 || ((23 : Nat) == 20)) (dn 25 || ((23 : Nat) == 25)) o0 o1 o2 o3 o4 o5) ∧ W.ownsRow B 86 5 u3 k xs ∧ B ≤ W.heap.size) W'
            rw [g5, g10, g15, g20, g25, g28]
            exact h
          clear g5 g10 g15 g20 g25 g28 e1 e2 e3
          obtain rfl : l = [(21, 29), (22, 30)] := hl.symm.trans (by kernel_rfl)
          have p22 : vs 22 = _ := hp 22 (by decide) (by decide)
          clear hp hl
          refine opgoal (_) (some 31) rfl rfl fun K hK => ?_
          refine Runs.mk ?_
          simp only [putAll]
          go_simp
          refine hK _ _ ?_ hS ⟨fun h => absurd h (by decide), fun h => absurd h (by decide), fun h => absurd h (by decide), fun h => absurd h (by decide), fun h => absurd h (by decide), fun h => absurd h (by decide), fun h5 h10 h15 h20 h25 h28 => ((fun w => Below.refl _ w) W)⟩ _ rfl rfl
          first | rfl | go_simp | simp
        · -- 24: Op.load 37 (Operand.tmp 31)
          intro l hl vs W dn e1 e2 e3 hS hR hp
          have f5 : dn 5 = dn 5 := rfl
          have f10 : dn 10 = dn 10 := rfl
          have f15 : dn 15 = dn 15 := rfl
          have f20 : dn 20 = dn 20 := rfl
          have f25 : dn 25 = false := e3 25 (by kernel_rfl)
          have f28 : dn 28 = false := e3 28 (by kernel_rfl)
          replace hS : (fun W => (dn 28) = false → Rst bi b W (pick5 (dn 5) (dn 10) (dn 15) (dn 20) (dn 25) o0 o1 o2 o3 o4 o5) ∧ W.ownsRow B 86 5 u3 k xs ∧ B ≤ W.heap.size) W := hS
          rw [f25, f28] at hS
          have g5 : (dn 5 || ((24 : Nat) == 5)) = dn 5 := Bool.or_false _
          have g10 : (dn 10 || ((24 : Nat) == 10)) = dn 10 := Bool.or_false _
          have g15 : (dn 15 || ((24 : Nat) == 15)) = dn 15 := Bool.or_false _
          have g20 : (dn 20 || ((24 : Nat) == 20)) = dn 20 := Bool.or_false _
          have g25 : (dn 25 || ((24 : Nat) == 25)) = false := by rw [f25]; rfl
          have g28 : (dn 28 || ((24 : Nat) == 28)) = false := by rw [f28]; rfl
          refine OpGoal.imp (S1 := fun W => false = false → Rst bi b W (pick5 (dn 5) (dn 10) (dn 15) (dn 20) false o0 o1 o2 o3 o4 o5) ∧ W.ownsRow B 86 5 u3 k xs ∧ B ≤ W.heap.size) (fun W' h => ?_) ?_
          · show (fun W => (dn 28 || ((24 : Nat) == 28)) = false → Rst bi b W (pick5 (dn 5 || ((24 : Nat) == 5)) (dn 10 || ((24 : Nat) == 10)) (dn 15 || ((24 : Nat) == 15)) (dn 20 || ((24 : Nat) == 20)) (dn 25 || ((24 : Nat) == 25)) o0 o1 o2 o3 o4 o5) ∧ W.ownsRow B 86 5 u3 k xs ∧ B ≤ W.heap.size) W'
            rw [g5, g10, g15, g20, g25, g28]
            exact h
          clear g5 g10 g15 g20 g25 g28 e1 e2 e3
          obtain rfl : l = [(21, 29), (22, 30), (23, 31)] := hl.symm.trans (by kernel_rfl)
          have p23 : vs 23 = _ := hp 23 (by decide) (by decide)
          clear hp hl
          refine opgoal (_) (some 32) rfl rfl fun K hK => ?_
          have hi0 := hI.out W hR
          refine Runs.mk ?_
          simp only [putAll]
          go_simp
          refine hK _ _ ?_ hS ⟨fun h => absurd h (by decide), fun h => absurd h (by decide), fun h => absurd h (by decide), fun h => absurd h (by decide), fun h => absurd h (by decide), fun h => absurd h (by decide), fun h5 h10 h15 h20 h25 h28 => ((fun w => Below.refl _ w) W)⟩ _ rfl rfl
          first | rfl | go_simp | simp
        · -- 25: Op.call { callee := Callee.value (Operand.func 85), args := #[Operand.tmp 32], argTypes := #[37] }
          intro l hl vs W dn e1 e2 e3 hS hR hp
          have f5 : dn 5 = true := e2 5 (by kernel_rfl)
          have f10 : dn 10 = true := e2 10 (by kernel_rfl)
          have f15 : dn 15 = true := e2 15 (by kernel_rfl)
          have f20 : dn 20 = true := e2 20 (by kernel_rfl)
          have f25 : dn 25 = false := e1
          have f28 : dn 28 = false := e3 28 (by kernel_rfl)
          replace hS : (fun W => (dn 28) = false → Rst bi b W (pick5 (dn 5) (dn 10) (dn 15) (dn 20) (dn 25) o0 o1 o2 o3 o4 o5) ∧ W.ownsRow B 86 5 u3 k xs ∧ B ≤ W.heap.size) W := hS
          rw [f5, f10, f15, f20, f25, f28] at hS
          have g5 : (dn 5 || ((25 : Nat) == 5)) = true := by rw [f5]; rfl
          have g10 : (dn 10 || ((25 : Nat) == 10)) = true := by rw [f10]; rfl
          have g15 : (dn 15 || ((25 : Nat) == 15)) = true := by rw [f15]; rfl
          have g20 : (dn 20 || ((25 : Nat) == 20)) = true := by rw [f20]; rfl
          have g25 : (dn 25 || ((25 : Nat) == 25)) = true := by rw [f25]; rfl
          have g28 : (dn 28 || ((25 : Nat) == 28)) = false := by rw [f28]; rfl
          refine OpGoal.imp (S1 := fun W => false = false → Rst bi b W (pick5 true true true true true o0 o1 o2 o3 o4 o5) ∧ W.ownsRow B 86 5 u3 k xs ∧ B ≤ W.heap.size) (fun W' h => ?_) ?_
          · show (fun W => (dn 28 || ((25 : Nat) == 28)) = false → Rst bi b W (pick5 (dn 5 || ((25 : Nat) == 5)) (dn 10 || ((25 : Nat) == 10)) (dn 15 || ((25 : Nat) == 15)) (dn 20 || ((25 : Nat) == 20)) (dn 25 || ((25 : Nat) == 25)) o0 o1 o2 o3 o4 o5) ∧ W.ownsRow B 86 5 u3 k xs ∧ B ≤ W.heap.size) W'
            rw [g5, g10, g15, g20, g25, g28]
            exact h
          clear g5 g10 g15 g20 g25 g28 e1 e2 e3
          obtain rfl : l = [(1, 9), (2, 10), (3, 11), (4, 12), (5, 13), (6, 14), (7, 15), (8, 16), (9, 17), (10, 18), (11, 19), (12, 20), (13, 21), (14, 22), (15, 23), (16, 24), (17, 25), (18, 26), (19, 27), (20, 28), (21, 29), (22, 30), (23, 31), (24, 32)] := hl.symm.trans (by kernel_rfl)
          have p24 : vs 24 = _ := hp 24 (by decide) (by decide)
          clear hp hl
          refine opgoal (_) (some 33) rfl rfl fun K hK => ?_
          refine Runs.mk ?_
          simp only [putAll]
          go_simp
          refine (num_read b o4.1 o4.2 W (hS rfl).1.rd hz4.out).mono ?_
          rintro e w' ⟨he, hr, hk⟩
          rw [hn5.out] at he
          subst he
          rw [hs5.out, hq5.out] at hr
          go_simp
          exact hK _ _ rfl (fun _ => ⟨(hS rfl).1.step hr hk, own_keep (hS rfl).2.1 hk (fun j hj => by have := hnb.out j hj; simpa using this), Nat.le_trans (hS rfl).2.2 hk.size⟩) ⟨fun h => absurd h (by decide), fun h => absurd h (by decide), fun h => absurd h (by decide), fun h => absurd h (by decide), fun _ => hk, fun h => absurd h (by decide), fun h5 h10 h15 h20 h25 h28 => absurd rfl h25⟩ _ rfl rfl
        · -- 26: Op.build 86 #[(0, Operand.tmp 13), (1, Operand.tmp 18), (2, Operand.tmp 23), (3, Operand.tmp 28), (4, Operand.tmp 33)]
          intro l hl vs W dn e1 e2 e3 hS hR hp
          have f5 : dn 5 = true := e2 5 (by kernel_rfl)
          have f10 : dn 10 = true := e2 10 (by kernel_rfl)
          have f15 : dn 15 = true := e2 15 (by kernel_rfl)
          have f20 : dn 20 = true := e2 20 (by kernel_rfl)
          have f25 : dn 25 = true := e2 25 (by kernel_rfl)
          have f28 : dn 28 = false := e3 28 (by kernel_rfl)
          replace hS : (fun W => (dn 28) = false → Rst bi b W (pick5 (dn 5) (dn 10) (dn 15) (dn 20) (dn 25) o0 o1 o2 o3 o4 o5) ∧ W.ownsRow B 86 5 u3 k xs ∧ B ≤ W.heap.size) W := hS
          rw [f5, f10, f15, f20, f25, f28] at hS
          have g5 : (dn 5 || ((26 : Nat) == 5)) = true := by rw [f5]; rfl
          have g10 : (dn 10 || ((26 : Nat) == 10)) = true := by rw [f10]; rfl
          have g15 : (dn 15 || ((26 : Nat) == 15)) = true := by rw [f15]; rfl
          have g20 : (dn 20 || ((26 : Nat) == 20)) = true := by rw [f20]; rfl
          have g25 : (dn 25 || ((26 : Nat) == 25)) = true := by rw [f25]; rfl
          have g28 : (dn 28 || ((26 : Nat) == 28)) = false := by rw [f28]; rfl
          refine OpGoal.imp (S1 := fun W => false = false → Rst bi b W (pick5 true true true true true o0 o1 o2 o3 o4 o5) ∧ W.ownsRow B 86 5 u3 k xs ∧ B ≤ W.heap.size) (fun W' h => ?_) ?_
          · show (fun W => (dn 28 || ((26 : Nat) == 28)) = false → Rst bi b W (pick5 (dn 5 || ((26 : Nat) == 5)) (dn 10 || ((26 : Nat) == 10)) (dn 15 || ((26 : Nat) == 15)) (dn 20 || ((26 : Nat) == 20)) (dn 25 || ((26 : Nat) == 25)) o0 o1 o2 o3 o4 o5) ∧ W.ownsRow B 86 5 u3 k xs ∧ B ≤ W.heap.size) W'
            rw [g5, g10, g15, g20, g25, g28]
            exact h
          clear g5 g10 g15 g20 g25 g28 e1 e2 e3
          obtain rfl : l = [(1, 9), (2, 10), (3, 11), (4, 12), (5, 13), (6, 14), (7, 15), (8, 16), (9, 17), (10, 18), (11, 19), (12, 20), (13, 21), (14, 22), (15, 23), (16, 24), (17, 25), (18, 26), (19, 27), (20, 28), (21, 29), (22, 30), (23, 31), (24, 32), (25, 33)] := hl.symm.trans (by kernel_rfl)
          have p5 : vs 5 = _ := hp 5 (by decide) (by decide)
          have p10 : vs 10 = _ := hp 10 (by decide) (by decide)
          have p15 : vs 15 = _ := hp 15 (by decide) (by decide)
          have p20 : vs 20 = _ := hp 20 (by decide) (by decide)
          have p25 : vs 25 = _ := hp 25 (by decide) (by decide)
          clear hp hl
          refine opgoal (_) (some 34) rfl rfl fun K hK => ?_
          refine Runs.mk ?_
          simp only [putAll]
          go_simp
          refine hK _ _ ?_ hS ⟨fun h => absurd h (by decide), fun h => absurd h (by decide), fun h => absurd h (by decide), fun h => absurd h (by decide), fun h => absurd h (by decide), fun h => absurd h (by decide), fun h5 h10 h15 h20 h25 h28 => ((fun w => Below.refl _ w) W)⟩ _ rfl rfl
          first | rfl | go_simp | simp
        · -- 27: Op.buildSlice 54 1 #[(0, Operand.tmp 34)]
          intro l hl vs W dn e1 e2 e3 hS hR hp
          have f5 : dn 5 = true := e2 5 (by kernel_rfl)
          have f10 : dn 10 = true := e2 10 (by kernel_rfl)
          have f15 : dn 15 = true := e2 15 (by kernel_rfl)
          have f20 : dn 20 = true := e2 20 (by kernel_rfl)
          have f25 : dn 25 = true := e2 25 (by kernel_rfl)
          have f28 : dn 28 = false := e3 28 (by kernel_rfl)
          replace hS : (fun W => (dn 28) = false → Rst bi b W (pick5 (dn 5) (dn 10) (dn 15) (dn 20) (dn 25) o0 o1 o2 o3 o4 o5) ∧ W.ownsRow B 86 5 u3 k xs ∧ B ≤ W.heap.size) W := hS
          rw [f5, f10, f15, f20, f25, f28] at hS
          have g5 : (dn 5 || ((27 : Nat) == 5)) = true := by rw [f5]; rfl
          have g10 : (dn 10 || ((27 : Nat) == 10)) = true := by rw [f10]; rfl
          have g15 : (dn 15 || ((27 : Nat) == 15)) = true := by rw [f15]; rfl
          have g20 : (dn 20 || ((27 : Nat) == 20)) = true := by rw [f20]; rfl
          have g25 : (dn 25 || ((27 : Nat) == 25)) = true := by rw [f25]; rfl
          have g28 : (dn 28 || ((27 : Nat) == 28)) = false := by rw [f28]; rfl
          refine OpGoal.imp (S1 := fun W => false = false → Rst bi b W (pick5 true true true true true o0 o1 o2 o3 o4 o5) ∧ W.ownsRow B 86 5 u3 k xs ∧ B ≤ W.heap.size) (fun W' h => ?_) ?_
          · show (fun W => (dn 28 || ((27 : Nat) == 28)) = false → Rst bi b W (pick5 (dn 5 || ((27 : Nat) == 5)) (dn 10 || ((27 : Nat) == 10)) (dn 15 || ((27 : Nat) == 15)) (dn 20 || ((27 : Nat) == 20)) (dn 25 || ((27 : Nat) == 25)) o0 o1 o2 o3 o4 o5) ∧ W.ownsRow B 86 5 u3 k xs ∧ B ≤ W.heap.size) W'
            rw [g5, g10, g15, g20, g25, g28]
            exact h
          clear g5 g10 g15 g20 g25 g28 e1 e2 e3
          obtain rfl : l = [(1, 9), (2, 10), (3, 11), (4, 12), (5, 13), (6, 14), (7, 15), (8, 16), (9, 17), (10, 18), (11, 19), (12, 20), (13, 21), (14, 22), (15, 23), (16, 24), (17, 25), (18, 26), (19, 27), (20, 28), (21, 29), (22, 30), (23, 31), (24, 32), (25, 33), (26, 34)] := hl.symm.trans (by kernel_rfl)
          have p26 : vs 26 = _ := hp 26 (by decide) (by decide)
          clear hp hl
          refine opgoal (_) (some 35) rfl rfl fun K hK => ?_
          refine Runs.mk ?_
          simp only [putAll]
          go_simp
          have hb := below_alloc W (.cells #[.int .i64 n1, .int .i64 n2, .int .i64 n3, .bool n4, .int .i64 n5] 86)
          exact hK _ _ ⟨W.heap.size, rfl, by simp, heap_alloc_new _ _⟩ (fun h => ⟨(hS h).1.below hb, own_kept (hS h).2.1 hb, Nat.le_trans (hS h).2.2 hb.size⟩) ⟨fun h => absurd h (by decide), fun h => absurd h (by decide), fun h => absurd h (by decide), fun h => absurd h (by decide), fun h => absurd h (by decide), fun h => absurd h (by decide), fun _ _ _ _ _ _ => hb⟩ _ rfl rfl
        · -- 28: Op.call { callee := Callee.builtin Builtin.append, args := #[Operand.tmp 8, Operand.tmp 35], argTypes := #[54, 54] }
          intro l hl vs W dn e1 e2 e3 hS hR hp
          have f5 : dn 5 = true := e2 5 (by kernel_rfl)
          have f10 : dn 10 = true := e2 10 (by kernel_rfl)
          have f15 : dn 15 = true := e2 15 (by kernel_rfl)
          have f20 : dn 20 = true := e2 20 (by kernel_rfl)
          have f25 : dn 25 = true := e2 25 (by kernel_rfl)
          have f28 : dn 28 = false := e1
          replace hS : (fun W => (dn 28) = false → Rst bi b W (pick5 (dn 5) (dn 10) (dn 15) (dn 20) (dn 25) o0 o1 o2 o3 o4 o5) ∧ W.ownsRow B 86 5 u3 k xs ∧ B ≤ W.heap.size) W := hS
          rw [f5, f10, f15, f20, f25, f28] at hS
          have g5 : (dn 5 || ((28 : Nat) == 5)) = true := by rw [f5]; rfl
          have g10 : (dn 10 || ((28 : Nat) == 10)) = true := by rw [f10]; rfl
          have g15 : (dn 15 || ((28 : Nat) == 15)) = true := by rw [f15]; rfl
          have g20 : (dn 20 || ((28 : Nat) == 20)) = true := by rw [f20]; rfl
          have g25 : (dn 25 || ((28 : Nat) == 25)) = true := by rw [f25]; rfl
          have g28 : (dn 28 || ((28 : Nat) == 28)) = true := by rw [f28]; rfl
          refine OpGoal.imp (S1 := fun W => true = false → Rst bi b W (pick5 true true true true true o0 o1 o2 o3 o4 o5) ∧ W.ownsRow B 86 5 u3 k xs ∧ B ≤ W.heap.size) (fun W' h => ?_) ?_
          · show (fun W => (dn 28 || ((28 : Nat) == 28)) = false → Rst bi b W (pick5 (dn 5 || ((28 : Nat) == 5)) (dn 10 || ((28 : Nat) == 10)) (dn 15 || ((28 : Nat) == 15)) (dn 20 || ((28 : Nat) == 20)) (dn 25 || ((28 : Nat) == 25)) o0 o1 o2 o3 o4 o5) ∧ W.ownsRow B 86 5 u3 k xs ∧ B ≤ W.heap.size) W'
            rw [g5, g10, g15, g20, g25, g28]
            exact h
          clear g5 g10 g15 g20 g25 g28 e1 e2 e3
          obtain rfl : l = [(0, 8), (1, 9), (2, 10), (3, 11), (4, 12), (5, 13), (6, 14), (7, 15), (8, 16), (9, 17), (10, 18), (11, 19), (12, 20), (13, 21), (14, 22), (15, 23), (16, 24), (17, 25), (18, 26), (19, 27), (20, 28), (21, 29), (22, 30), (23, 31), (24, 32), (25, 33), (26, 34), (27, 35)] := hl.symm.trans (by kernel_rfl)
          have p0 : vs 0 = _ := hp 0 (by decide) (by decide)
          have p27 : (fun v W => ∃ j, v = .slice (some ⟨j, 0, none⟩) 1 1 ∧ j < W.heap.size ∧ W.heap[j]? = some (.cells #[.int .i64 n1, .int .i64 n2, .int .i64 n3, .bool n4, .int .i64 n5] 86 (0, 0))) (vs 27) W := hp 27 (by decide) (by decide)
          dsimp only at p27
          clear hp hl
          obtain ⟨j, q27, l27, b27⟩ := p27
          refine opgoal ({ dst := some 36, op := Op.call { callee := Callee.builtin Builtin.append, args := #[Operand.tmp 8, Operand.tmp 35], argTypes := #[54, 54] }, type := 54, pos := "item.go:115", after := #[{ on := 0, ground := Ground.data }, { on := 27, ground := Ground.data }, { on := 25, ground := Ground.chain }], guard := none }) (some 36) rfl rfl fun K hK => ?_
          refine runs_append_src W (wanted_none rfl) (.tmp 8) (.tmp 35) B 54 86 (.agg #[.int .i64 0, .int .i64 0, .int .i64 0, .bool false, .int .i64 0]) 5 40 rfl (by kernel_rfl) (by kernel_rfl) rfl (by decide) (by decide) u3 k xs (by simp [putAll, Act.put, Act.eval, p0]) (hS rfl).2.1 (some ⟨j, 0, none⟩) 1 1 (by simp [putAll, Act.put, Act.eval, q27]) (fun h => by cases h) [.int .i64 n1, .int .i64 n2, .int .i64 n3, .bool n4, .int .i64 n5] rfl (lies_block b27) (by simp [Value.oneCell']) (by have := hk16.out; omega) (hS rfl).2.2 ?_
          intro v' w' h1 h2 h3
          have hkk : Keep (b :: ob.toList) W w' := keep_grown h2 _ (fun j hj _ => by rw [hob.out] at hj; simp [hj])
          exact hK _ _ ⟨h1, (hS rfl).1.grown h2 (fun j hj => hnb.out j hj) hnbi.out⟩ (fun h => by cases h) ⟨fun h => absurd h (by decide), fun h => absurd h (by decide), fun h => absurd h (by decide), fun h => absurd h (by decide), fun h => absurd h (by decide), fun _ => hkk, fun h5 h10 h15 h20 h25 h28 => absurd rfl h28⟩ _ put_dfs (put_slot (by simp))
        · -- 29: Op.assign (Operand.tmp 36)
          intro l hl vs W dn e1 e2 e3 hS hR hp
          have f5 : dn 5 = true := e2 5 (by kernel_rfl)
          have f10 : dn 10 = true := e2 10 (by kernel_rfl)
          have f15 : dn 15 = true := e2 15 (by kernel_rfl)
          have f20 : dn 20 = true := e2 20 (by kernel_rfl)
          have f25 : dn 25 = true := e2 25 (by kernel_rfl)
          have f28 : dn 28 = true := e2 28 (by kernel_rfl)
          replace hS : (fun W => (dn 28) = false → Rst bi b W (pick5 (dn 5) (dn 10) (dn 15) (dn 20) (dn 25) o0 o1 o2 o3 o4 o5) ∧ W.ownsRow B 86 5 u3 k xs ∧ B ≤ W.heap.size) W := hS
          rw [f5, f10, f15, f20, f25, f28] at hS
          have g5 : (dn 5 || ((29 : Nat) == 5)) = true := by rw [f5]; rfl
          have g10 : (dn 10 || ((29 : Nat) == 10)) = true := by rw [f10]; rfl
          have g15 : (dn 15 || ((29 : Nat) == 15)) = true := by rw [f15]; rfl
          have g20 : (dn 20 || ((29 : Nat) == 20)) = true := by rw [f20]; rfl
          have g25 : (dn 25 || ((29 : Nat) == 25)) = true := by rw [f25]; rfl
          have g28 : (dn 28 || ((29 : Nat) == 28)) = true := by rw [f28]; rfl
          refine OpGoal.imp (S1 := fun W => true = false → Rst bi b W (pick5 true true true true true o0 o1 o2 o3 o4 o5) ∧ W.ownsRow B 86 5 u3 k xs ∧ B ≤ W.heap.size) (fun W' h => ?_) ?_
          · show (fun W => (dn 28 || ((29 : Nat) == 28)) = false → Rst bi b W (pick5 (dn 5 || ((29 : Nat) == 5)) (dn 10 || ((29 : Nat) == 10)) (dn 15 || ((29 : Nat) == 15)) (dn 20 || ((29 : Nat) == 20)) (dn 25 || ((29 : Nat) == 25)) o0 o1 o2 o3 o4 o5) ∧ W.ownsRow B 86 5 u3 k xs ∧ B ≤ W.heap.size) W'
            rw [g5, g10, g15, g20, g25, g28]
            exact h
          clear g5 g10 g15 g20 g25 g28 e1 e2 e3
          obtain rfl : l = [(0, 8), (1, 9), (2, 10), (3, 11), (4, 12), (5, 13), (6, 14), (7, 15), (8, 16), (9, 17), (10, 18), (11, 19), (12, 20), (13, 21), (14, 22), (15, 23), (16, 24), (17, 25), (18, 26), (19, 27), (20, 28), (21, 29), (22, 30), (23, 31), (24, 32), (25, 33), (26, 34), (27, 35), (28, 36)] := hl.symm.trans (by kernel_rfl)
          have p28 : (fun v W => W.ownsRow B 86 5 v (k + 1) (xs ++ [.int .i64 n1, .int .i64 n2, .int .i64 n3, .bool n4, .int .i64 n5]) ∧ Rst bi b W o5) (vs 28) W := hp 28 (by decide) (by decide)
          dsimp only at p28
          clear hp hl
          refine opgoal (_) (some 3) rfl rfl fun K hK => ?_
          refine Runs.mk ?_
          simp only [putAll]
          go_simp
          exact hK _ _ p28 hS ⟨fun h => absurd h (by decide), fun h => absurd h (by decide), fun h => absurd h (by decide), fun h => absurd h (by decide), fun h => absurd h (by decide), fun h => absurd h (by decide), fun _ _ _ _ _ _ => (fun w => Below.refl _ w) W⟩ _ rfl rfl
      · intro l hl vs W dn hd hS hR hp
        replace hS : (fun W => (dn 28) = false → Rst bi b W (pick5 (dn 5) (dn 10) (dn 15) (dn 20) (dn 25) o0 o1 o2 o3 o4 o5) ∧ W.ownsRow B 86 5 u3 k xs ∧ B ≤ W.heap.size) W := hS
        rw [hd 5 (by decide), hd 10 (by decide), hd 15 (by decide), hd 20 (by decide), hd 25 (by decide), hd 28 (by decide)] at hS
        obtain rfl : l = [(0, 8), (1, 9), (2, 10), (3, 11), (4, 12), (5, 13), (6, 14), (7, 15), (8, 16), (9, 17), (10, 18), (11, 19), (12, 20), (13, 21), (14, 22), (15, 23), (16, 24), (17, 25), (18, 26), (19, 27), (20, 28), (21, 29), (22, 30), (23, 31), (24, 32), (25, 33), (26, 34), (27, 35), (28, 36), (29, 3)] := hl.symm.trans (by kernel_rfl)
        have p0 : vs 0 = _ := hp 0 (by decide) (by decide)
        have p1 : vs 1 = _ := hp 1 (by decide) (by decide)
        have p2 : vs 2 = _ := hp 2 (by decide) (by decide)
        have p3 : vs 3 = _ := hp 3 (by decide) (by decide)
        have p4 : vs 4 = _ := hp 4 (by decide) (by decide)
        have p5 : vs 5 = _ := hp 5 (by decide) (by decide)
        have p6 : vs 6 = _ := hp 6 (by decide) (by decide)
        have p7 : vs 7 = _ := hp 7 (by decide) (by decide)
        have p8 : vs 8 = _ := hp 8 (by decide) (by decide)
        have p9 : vs 9 = _ := hp 9 (by decide) (by decide)
        have p10 : vs 10 = _ := hp 10 (by decide) (by decide)
        have p11 : vs 11 = _ := hp 11 (by decide) (by decide)
        have p12 : vs 12 = _ := hp 12 (by decide) (by decide)
        have p13 : vs 13 = _ := hp 13 (by decide) (by decide)
        have p14 : vs 14 = _ := hp 14 (by decide) (by decide)
        have p15 : vs 15 = _ := hp 15 (by decide) (by decide)
        have p16 : vs 16 = _ := hp 16 (by decide) (by decide)
        have p17 : vs 17 = _ := hp 17 (by decide) (by decide)
        have p18 : vs 18 = _ := hp 18 (by decide) (by decide)
        have p19 : vs 19 = _ := hp 19 (by decide) (by decide)
        have p20 : vs 20 = _ := hp 20 (by decide) (by decide)
        have p21 : vs 21 = _ := hp 21 (by decide) (by decide)
        have p22 : vs 22 = _ := hp 22 (by decide) (by decide)
        have p23 : vs 23 = _ := hp 23 (by decide) (by decide)
        have p24 : vs 24 = _ := hp 24 (by decide) (by decide)
        have p25 : vs 25 = _ := hp 25 (by decide) (by decide)
        have p26 : vs 26 = _ := hp 26 (by decide) (by decide)
        have p29 : (fun v W => W.ownsRow B 86 5 v (k + 1) (xs ++ [.int .i64 n1, .int .i64 n2, .int .i64 n3, .bool n4, .int .i64 n5]) ∧ Rst bi b W o5) (vs 29) W := hp 29 (by decide) (by decide)
        dsimp only at p29
        clear hp hl
        simp only [putAll_mk, setAll, List.setIfInBounds_toArray, List.set_cons_succ, List.set_cons_zero, p0, p1, p2, p3, p4, p5, p6, p7, p8, p9, p10, p11, p12, p13, p14, p15, p16, p17, p18, p19, p20, p21, p22, p23, p24, p25, p26]
        have HE := Lib.hid p29
        have HRR := Lib.hid hR
        clear p29 hR hS
        go_wp2
        go_roundw
        case rel => exact ⟨k + 1, by omega, by go_num, HNX.out _ _ HE.out HRR.out⟩
        case measure => simp [intOf]; omega
    · obtain rfl : m = k := by omega
      go_wp2
      go_ret
      exact ⟨_, rfl, ho, hr, hkp⟩
end Go.Proofs.Ytfpocddpnoighaa.It

/- wire, in plain Lean: what is read is what the document says; what was read is put so. -/
namespace Go.Proofs.Ytfpocddpnoighaa.Wr
open Go.RowKit Go.Proofs.Ytfpocddpnoighaa.L Go.Proofs.Ytfpocddpnoighaa.A Go.Proofs.Ytfpocddpnoighaa.S Go.Proofs.Ytfpocddpnoighaa.T
set_option linter.unusedVariables false
set_option linter.unusedSimpArgs false

structure RdO where
  n : Int
  t : ByteArray
  s : ByteArray
  q : Bool
/-- what get does. -/
def readR (k : Nat) (s : ByteArray) (q : Bool) : RdO := match k with
  | 0 => ⟨(numT 1 s q : Nat), ⟨#[]⟩, takeS 1 s q, takeQ 1 s q⟩
  | 1 => ⟨if numT 1 s q == 1 then 1 else 0, ⟨#[]⟩, takeS 1 s q, takeQ 1 s q || decide (1 < numT 1 s q)⟩
  | 2 => ⟨(numT 2 s q : Nat), ⟨#[]⟩, takeS 2 s q, takeQ 2 s q⟩
  | 3 => ⟨wrap64 (numT 8 s q : Nat), ⟨#[]⟩, takeS 8 s q, takeQ 8 s q⟩
  | _ => ⟨0, takeT (numT 2 s q) (takeS 2 s q) (takeQ 2 s q), takeS (numT 2 s q) (takeS 2 s q) (takeQ 2 s q), takeQ (numT 2 s q) (takeS 2 s q) (takeQ 2 s q)⟩
theorem get_read (k : Nat) (hk : k ≤ 4) (b : Nat) (s : ByteArray) (q : Bool) (hs : s.size ≤ 9223372036854775807) (w : World) (h : Rdr w b s q) (o : RdO) (ho : readR k s q = o) :
    Calls Try.prog 25 #[.pointer (some ⟨b, 0, none⟩), .int .i64 k] w fun e w' => e = .returned (.agg #[.int .i64 k, .int .i64 o.n, .string o.t]) ∧ Rds w b o.s o.q w' := by
  subst ho
  have hb := h.lt
  have hG : ∀ (s' : ByteArray) (q' : Bool) u v, Rdr u b s' q' → Keep [w.heap.size, w.heap.size + 1] u v → Rdr v b s' q' := fun s' q' u v h hk => h.keep hk (by simp; omega)
  have hS : ∀ k ∈ [b], k < w.heap.size := by simpa using hb
  rcases (by omega : k = 0 ∨ k = 1 ∨ k = 2 ∨ k = 3 ∨ k = 4) with rfl | rfl | rfl | rfl | rfl
  · exact get0 _ [b] _ (numT_lt 1 s q (by omega)) (fun u => Rdr u b _ _) w (fun W hW => byte_read b s q W (h.below hW) hs) hS (hG _ _)
  · cases h1 : numT 1 s q == 1
    · refine (get1f _ [b] (fun u => Rdr u b _ _) w (fun W hW => ?_) hS (hG _ _)).mono fun e w' ⟨he, hr⟩ => ⟨?_, hr⟩
      · have := bool_read b s q W (h.below hW) hs
        rw [h1] at this
        exact this
      · rw [he]; simp [readR, h1]
    · refine (get1t _ [b] (fun u => Rdr u b _ _) w (fun W hW => ?_) hS (hG _ _)).mono fun e w' ⟨he, hr⟩ => ⟨?_, hr⟩
      · have := bool_read b s q W (h.below hW) hs
        rw [h1] at this
        exact this
      · rw [he]; simp [readR, h1]
  · exact get2 _ [b] _ (fun u => Rdr u b _ _) w (fun W hW => count_read b s q W (h.below hW) hs) hS (hG _ _)
  · exact get3 _ [b] _ (fun u => Rdr u b _ _) w (fun W hW => num_read b s q W (h.below hW) hs) hS (hG _ _)
  · exact get4 _ [b] _ (fun u => Rdr u b _ _) w (fun W hW => text_read b s q W (h.below hW) hs _ _ _ rfl rfl rfl) hS (hG _ _)

theorem takeT_ok {n : Nat} {s : ByteArray} (h : n ≤ s.size) : takeT n s false = s.extract 0 n := by
  have : decide (s.size < n) = false := by simpa using h
  simp [takeT, this]
theorem takeS_ok {n : Nat} {s : ByteArray} (h : n ≤ s.size) : takeS n s false = s.extract n s.size := by
  have : decide (s.size < n) = false := by simpa using h
  simp [takeS, this]
theorem takeQ_ok {n : Nat} {s : ByteArray} (h : n ≤ s.size) : takeQ n s false = false := by simpa [takeQ] using h
theorem takeQ_no {n : Nat} {s : ByteArray} (h : s.size < n) : takeQ n s false = true := by simpa [takeQ] using h
theorem numT_ok {n : Nat} {s : ByteArray} (h : n ≤ s.size) : numT n s false = headV n s := by simp [numT, headV, takeT_ok h]
theorem headV_small (n : Nat) (s : ByteArray) (hn : n ≤ 7) : wrap64 (headV n s : Nat) = (headV n s : Nat) := wrap_small (by
  have h1 := headV_lt n s (by omega)
  have h2 : 256 ^ n ≤ 256 ^ 7 := Nat.pow_le_pow_right (by omega) hn
  omega)
theorem takeQ_true (n : Nat) (s : ByteArray) : takeQ n s true = true := rfl
/-- what is read is what Get finds. -/
theorem read_none (k : Nat) (hk : k ≤ 4) (s : ByteArray) (h : refG k s = none) : (readR k s false).q = true := by
  unfold refG at h
  rcases (by omega : k = 0 ∨ k = 1 ∨ k = 2 ∨ k = 3 ∨ k = 4) with rfl | rfl | rfl | rfl | rfl
  · by_cases h1 : s.size < 1
    · exact takeQ_no h1
    · simp [szOf, h1] at h
  · by_cases h1 : s.size < 1
    · simp [readR, takeQ_no h1]
    · by_cases h2 : 1 < headV 1 s
      · simp [readR, numT_ok (show 1 ≤ s.size by omega), h2]
      · simp [szOf, h1, h2] at h
  · by_cases h1 : s.size < 2
    · exact takeQ_no h1
    · simp [szOf, h1] at h
  · by_cases h1 : s.size < 8
    · exact takeQ_no h1
    · simp [szOf, h1] at h
  · by_cases h1 : s.size < 2
    · simp [readR, takeQ_no h1, takeQ_true]
    · by_cases h2 : s.size - 2 < headV 2 s
      · simp only [readR, takeQ_ok (show 2 ≤ s.size by omega), takeS_ok (show 2 ≤ s.size by omega), numT_ok (show 2 ≤ s.size by omega)]
        exact takeQ_no (by rw [ByteArray.size_extract]; omega)
      · simp [szOf, h1, h2] at h
theorem ext_ext (s : ByteArray) (a b : Nat) (h : a + b ≤ s.size) : (s.extract a s.size).extract 0 b = s.extract a (a + b) ∧ (s.extract a s.size).extract b (s.extract a s.size).size = s.extract (a + b) s.size := by
  constructor
  · apply ByteArray.ext
    simp
    rw [show min (a + b) s.size = a + b by omega]
  · apply ByteArray.ext
    simp
    rw [show min (a + (s.size - a)) s.size = s.size by omega]
theorem read_some (k : Nat) (hk : k ≤ 4) (s : ByteArray) (n : Int) (t : ByteArray) (m : Nat) (h : refG k s = some (n, t, m)) : readR k s false = ⟨n, t, s.extract m s.size, false⟩ ∧ 0 < m ∧ m ≤ s.size := by
  unfold refG at h
  rcases (by omega : k = 0 ∨ k = 1 ∨ k = 2 ∨ k = 3 ∨ k = 4) with rfl | rfl | rfl | rfl | rfl
  · by_cases h1 : s.size < 1
    · simp [szOf, h1] at h
    · simp [szOf, h1] at h
      obtain ⟨rfl, rfl, rfl⟩ := h
      have h2 : 1 ≤ s.size := by omega
      simp only [readR, numT_ok h2, takeS_ok h2, takeQ_ok h2, headV_small 1 s (by omega)]
      exact ⟨trivial, by omega, h2⟩
  · by_cases h1 : s.size < 1
    · simp [szOf, h1] at h
    · by_cases h3 : 1 < headV 1 s
      · simp [szOf, h1, h3] at h
      · simp [szOf, h1, h3] at h
        obtain ⟨rfl, rfl, rfl⟩ := h
        have h2 : 1 ≤ s.size := by omega
        have h4 : headV 1 s = 0 ∨ headV 1 s = 1 := by omega
        have h5 : decide (1 < headV 1 s) = false := by simpa using h3
        simp only [readR, numT_ok h2, takeS_ok h2, takeQ_ok h2, headV_small 1 s (by omega), h5, Bool.or_false]
        refine ⟨?_, by omega, h2⟩
        rcases h4 with h4 | h4 <;> rw [h4] <;> rfl
  · by_cases h1 : s.size < 2
    · simp [szOf, h1] at h
    · simp [szOf, h1] at h
      obtain ⟨rfl, rfl, rfl⟩ := h
      have h2 : 2 ≤ s.size := by omega
      simp only [readR, numT_ok h2, takeS_ok h2, takeQ_ok h2, headV_small 2 s (by omega)]
      exact ⟨trivial, by omega, h2⟩
  · by_cases h1 : s.size < 8
    · simp [szOf, h1] at h
    · simp [szOf, h1] at h
      obtain ⟨rfl, rfl, rfl⟩ := h
      have h2 : 8 ≤ s.size := by omega
      simp only [readR, numT_ok h2, takeS_ok h2, takeQ_ok h2]
      exact ⟨trivial, by omega, h2⟩
  · by_cases h1 : s.size < 2
    · simp [szOf, h1] at h
    · by_cases h3 : s.size - 2 < headV 2 s
      · simp [szOf, h1, h3] at h
      · simp [szOf, h1, h3] at h
        obtain ⟨rfl, rfl, rfl⟩ := h
        have h2 : 2 ≤ s.size := by omega
        have h4 : headV 2 s ≤ (s.extract 2 s.size).size := by rw [ByteArray.size_extract]; omega
        obtain ⟨e1, e2⟩ := ext_ext s 2 (headV 2 s) (by omega)
        simp only [readR, numT_ok h2, takeS_ok h2, takeQ_ok h2, takeT_ok h4, takeS_ok h4, takeQ_ok h4, e1, e2]
        exact ⟨trivial, by omega, by omega⟩

/-! ### what was read is put so -/
theorem bigB_snoc (V x size : Nat) (hx : x < 256) : bigB (V * 256 + x) (size + 1) = bigB V size ++ [UInt8.ofNat x] := by
  unfold bigB
  rw [List.range_succ, List.map_append, List.map_singleton]
  congr 1
  · apply List.map_congr_left
    intro j hj
    have hj' : j < size := by simpa using hj
    congr 1
    rw [show size + 1 - 1 - j = (size - 1 - j) + 1 by omega, Nat.pow_succ, Nat.mul_comm (256 ^ (size - 1 - j)) 256, ← Nat.div_div_eq_div_mul, show (V * 256 + x) / 256 = V by omega]
  · simp
    congr 1
    omega
theorem bigB_val : ∀ (n : Nat) (l : List UInt8), l.length = n → bigB (valB l) n = l := by
  intro n
  induction n with
  | zero => intro l h; rw [List.eq_nil_of_length_eq_zero h]; rfl
  | succ n ih =>
    intro l h
    obtain ⟨a, x, rfl⟩ : ∃ a x, l = a ++ [x] := ⟨l.dropLast, l.getLast (by intro e; simp [e] at h), (List.dropLast_concat_getLast _).symm⟩
    rw [valB_snoc, bigB_snoc _ _ _ (UInt8.toNat_lt x), ih a (by simpa using h)]
    simp
theorem ext_list (s : ByteArray) (a b : Nat) : (s.extract a b).data.toList = (s.data.toList.take b).drop a := by
  rw [Lib.extract_data, List.drop_take]
theorem head_big (n : Nat) (s : ByteArray) (h : n ≤ s.size) (hn : n ≤ 8) : bigB (headV n s) n = s.data.toList.take n := by
  have hl : (s.extract 0 n).data.toList.length = n := by
    rw [Array.length_toList]
    show (s.extract 0 n).size = n
    rw [ByteArray.size_extract]; omega
  unfold headV
  rw [numV_le _ (by omega), bigB_val n _ hl, ext_list, List.drop_zero]
theorem u64_wrap64 (m : Nat) (h : m < 18446744073709551616) : u64 (wrap64 (m : Int)) = m := by
  unfold u64 wrap64
  omega
theorem put_read (k : Nat) (hk : k ≤ 4) (s : ByteArray) (n : Int) (t : ByteArray) (m : Nat) (h : refG k s = some (n, t, m)) : putB ⟨k, n, t⟩ = s.data.toList.take m ∧ putOk ⟨k, n, t⟩ = true ∧ t.size ≤ s.size := by
  unfold refG at h
  rcases (by omega : k = 0 ∨ k = 1 ∨ k = 2 ∨ k = 3 ∨ k = 4) with rfl | rfl | rfl | rfl | rfl
  · by_cases h1 : s.size < 1
    · simp [szOf, h1] at h
    · simp [szOf, h1] at h
      obtain ⟨rfl, rfl, rfl⟩ := h
      have h2 : 1 ≤ s.size := by omega
      have h3 := head_big 1 s h2 (by omega)
      have h4 := headV_lt 1 s (by omega)
      rw [headV_small 1 s (by omega)]
      refine ⟨?_, rfl, Nat.zero_le _⟩
      rw [← h3]
      simp [putB, bigB]
      congr 1
  · by_cases h1 : s.size < 1
    · simp [szOf, h1] at h
    · by_cases h3 : 1 < headV 1 s
      · simp [szOf, h1, h3] at h
      · simp [szOf, h1, h3] at h
        obtain ⟨rfl, rfl, rfl⟩ := h
        have h2 : 1 ≤ s.size := by omega
        have h5 := head_big 1 s h2 (by omega)
        have h4 : headV 1 s = 0 ∨ headV 1 s = 1 := by omega
        rw [headV_small 1 s (by omega)]
        refine ⟨?_, rfl, Nat.zero_le _⟩
        rw [← h5]
        rcases h4 with h4 | h4 <;> rw [h4] <;> rfl
  · by_cases h1 : s.size < 2
    · simp [szOf, h1] at h
    · simp [szOf, h1] at h
      obtain ⟨rfl, rfl, rfl⟩ := h
      have h2 : 2 ≤ s.size := by omega
      have h3 := head_big 2 s h2 (by omega)
      have h4 := headV_lt 2 s (by omega)
      rw [headV_small 2 s (by omega)]
      have h5 : okN (headV 2 s : Nat) = true := by simp [okN]; omega
      refine ⟨?_, ?_, Nat.zero_le _⟩
      · simp [putB, h5, h3]
      · simp [putOk, h5]
  · by_cases h1 : s.size < 8
    · simp [szOf, h1] at h
    · simp [szOf, h1] at h
      obtain ⟨rfl, rfl, rfl⟩ := h
      have h2 : 8 ≤ s.size := by omega
      have h3 := head_big 8 s h2 (by omega)
      have h4 := headV_lt 8 s (by omega)
      refine ⟨?_, rfl, Nat.zero_le _⟩
      simp only [putB]
      rw [u64_wrap64 _ (by omega), h3]
      simp
  · by_cases h1 : s.size < 2
    · simp [szOf, h1] at h
    · by_cases h3 : s.size - 2 < headV 2 s
      · simp [szOf, h1, h3] at h
      · simp [szOf, h1, h3] at h
        obtain ⟨rfl, rfl, rfl⟩ := h
        have h2 : 2 ≤ s.size := by omega
        have h5 := head_big 2 s h2 (by omega)
        have h4 := headV_lt 2 s (by omega)
        have h6 : (s.extract 2 (2 + headV 2 s)).size = headV 2 s := by rw [ByteArray.size_extract]; omega
        have h7 : okN ((s.extract 2 (2 + headV 2 s)).size : Nat) = true := by rw [h6]; simp [okN]; omega
        refine ⟨?_, ?_, by rw [h6]; omega⟩
        · simp only [putB, textB, h7, if_true, h6, h5]
          rw [ext_list]
          have hta := List.take_append_drop 2 (List.take (2 + headV 2 s) s.data.toList)
          rw [List.take_take, Nat.min_eq_left (by omega)] at hta
          have h8 : okN (headV 2 s : Nat) = true := by rw [← h6]; exact h7
          simpa [h8] using hta
        · simp only [putOk, h7]; rfl
end Go.Proofs.Ytfpocddpnoighaa.Wr

/- WireReads: the walk. -/
namespace Go.Proofs.Ytfpocddpnoighaa.Wr
open Go.RowKit Go.Proofs.Ytfpocddpnoighaa.L Go.Proofs.Ytfpocddpnoighaa.O Go.Proofs.Ytfpocddpnoighaa.A Go.Proofs.Ytfpocddpnoighaa.S Go.Proofs.Ytfpocddpnoighaa.T Go.Proofs.Ytfpocddpnoighaa.E
set_option linter.unusedVariables false
set_option linter.unusedSimpArgs false

/-- a reader and a writer, of the call's own; and blocks of other things. -/
structure RW (w0 W : World) (pr : List (Nat × Obj)) (b bw : Nat) (s : ByteArray) (q : Bool) (bs : List UInt8) (bad : Bool) : Prop where
  low : Below w0.heap.size w0 W
  rd : Rdr W b s q
  ge : w0.heap.size ≤ b
  out : ∃ r, Wr W bw r bs bad ∧ (∀ k ∈ blks bw r, w0.heap.size ≤ k ∧ k ≠ b) ∧ ∀ p ∈ pr, W.heap[p.1]? = some p.2 ∧ p.1 ≠ b ∧ p.1 ∉ blks bw r
theorem RW.below {w0 W W' : World} {pr : List (Nat × Obj)} {b bw : Nat} {s : ByteArray} {q : Bool} {bs : List UInt8} {bad : Bool} (h : RW w0 W pr b bw s q bs bad) (hb : Below W.heap.size W W') : RW w0 W' pr b bw s q bs bad := by
  obtain ⟨r, h1, h2, h3⟩ := h.out
  exact ⟨below2 h.low hb, h.rd.below hb, h.ge, r, h1.below hb, h2, fun p hp => ⟨keep_block (.of_below (S := []) hb) (h3 p hp).1 (by simp), (h3 p hp).2⟩⟩
theorem RW.lay {w0 W : World} {pr : List (Nat × Obj)} {b bw : Nat} {s : ByteArray} {q : Bool} {bs : List UInt8} {bad : Bool} (h : RW w0 W pr b bw s q bs bad) (o : Obj) : RW w0 (W.alloc o) ((W.heap.size, o) :: pr) b bw s q bs bad := by
  have hb := below_alloc W o
  obtain ⟨r, h1, h2, h3⟩ := h.out
  refine ⟨below2 h.low hb, h.rd.below hb, h.ge, r, h1.below hb, h2, fun p hp => ?_⟩
  rcases List.mem_cons.1 hp with rfl | hp
  · exact ⟨heap_alloc_new _ _, fun e => Nat.lt_irrefl _ (by have := h.rd.lt; rw [← e] at this; exact this), fun hk => Nat.lt_irrefl _ (h1.lts _ hk)⟩
  · exact ⟨keep_block (.of_below (S := []) hb) (h3 p hp).1 (by simp), (h3 p hp).2⟩
theorem RW.drop {w0 W : World} {pr : List (Nat × Obj)} {b bw : Nat} {s : ByteArray} {q : Bool} {bs : List UInt8} {bad : Bool} (h : RW w0 W pr b bw s q bs bad) : RW w0 W [] b bw s q bs bad := by
  obtain ⟨r, h1, h2, h3⟩ := h.out
  exact ⟨h.low, h.rd, h.ge, r, h1, h2, by simp⟩
theorem RW.got {w0 W : World} {pr : List (Nat × Obj)} {b bw : Nat} {s : ByteArray} {q : Bool} {bs : List UInt8} {bad : Bool} (h : RW w0 W pr b bw s q bs bad) {g : Nat} {o : Obj} (hm : (g, o) ∈ pr) : W.heap[g]? = some o := by
  obtain ⟨r, h1, h2, h3⟩ := h.out
  exact (h3 _ hm).1
theorem RW.read {w0 W : World} {pr : List (Nat × Obj)} {b bw : Nat} {s s' : ByteArray} {q q' : Bool} {bs : List UInt8} {bad : Bool} {fn : FuncId} {args : Array Value} {E : Ending → Prop} (h : RW w0 W pr b bw s q bs bad)
    (c : Rdr W b s q → Calls Try.prog fn args W fun e w' => E e ∧ Rds W b s' q' w') : Calls Try.prog fn args W fun e w' => E e ∧ RW w0 w' pr b bw s' q' bs bad := by
  obtain ⟨r, h1, h2, h3⟩ := h.out
  refine (c h.rd).mono fun e w' ⟨he, hr, hk⟩ => ⟨he, h.low.trans (hk.below h.low.size (by simpa using h.ge)), hr, h.ge, r, h1.other hk (fun k hk1 hk2 => (h2 k hk1).2 (by simpa using hk2)), h2, fun p hp => ⟨keep_block hk (h3 p hp).1 (by simpa using (h3 p hp).2.1), (h3 p hp).2⟩⟩
theorem RW.write {w0 W : World} {pr : List (Nat × Obj)} {b bw : Nat} {s : ByteArray} {q : Bool} {bs bs' : List UInt8} {bad bad' : Bool} {fn : FuncId} {args : Array Value} {E : Ending → Prop} (h : RW w0 W pr b bw s q bs bad)
    (c : ∀ r, Wr W bw r bs bad → Calls Try.prog fn args W fun e w' => E e ∧ Wrs W bw (blks bw r) bs' bad' w') : Calls Try.prog fn args W fun e w' => E e ∧ RW w0 w' pr b bw s q bs' bad' := by
  obtain ⟨r, h1, h2, h3⟩ := h.out
  refine (c r h1).mono fun e w' ⟨he, hw⟩ => ⟨he, ?_⟩
  obtain ⟨r2, k1, k2⟩ := hw.out
  have hbl := h.rd.lt
  refine ⟨h.low.trans (hw.keep.below h.low.size fun x hx => (h2 x hx).1), h.rd.keep hw.keep (fun hm => (h2 b hm).2 rfl), h.ge, r2, k1, fun k hk => ?_, fun p hp => ?_⟩
  · rcases mem_blks.1 hk with rfl | hk
    · exact h2 k (mem_blks.2 (.inl rfl))
    · rcases k2 k hk with h4 | h4
      · exact h2 k h4
      · have := h.low.size; omega
  · obtain ⟨p1, p2, p3⟩ := h3 p hp
    refine ⟨keep_block hw.keep p1 p3, p2, fun hk => ?_⟩
    have hlt := (Array.getElem?_eq_some_iff.1 p1).1
    rcases mem_blks.1 hk with e | hk
    · exact p3 (mem_blks.2 (.inl e))
    · rcases k2 _ hk with h4 | h4
      · exact p3 h4
      · omega
theorem rw_new (w : World) (s : ByteArray) : RW w ((w.alloc (.cells #[.string s, .bool false] 128)).alloc (.cells #[.pointer none, .slice none 0 0, .bool false] 30)) [] w.heap.size (w.heap.size + 1) s false [] false := by
  have h1 := rdr_new w s
  have h2 := wr_new (w.alloc (.cells #[.string s, .bool false] 128)) 30 (.inl rfl)
  simp only [World.size_alloc] at h2
  refine ⟨below2 (below_alloc _ _) (below_alloc _ _), h1.below (below_alloc _ _), Nat.le_refl _, none, h2, fun k hk => ?_, by simp⟩
  rw [mem_blks] at hk
  simp at hk
  omega
/-- a thing's cells. -/
theorem th_cells {W : World} {g : Nat} {k n : Int} {t : ByteArray} {T : TypeId} (h : W.heap[g]? = some (.cells #[.int .i64 k, .int .i64 n, .string t] T (0, 0))) : W.cell? ⟨g, 0, none⟩ = some (.int .i64 k) ∧ W.cell? ⟨g, 1, none⟩ = some (.int .i64 n) ∧ W.cell? ⟨g, 2, none⟩ = some (.string t) :=
  ⟨by rw [cell_of_row _ _ _ _ _ _ h]; rfl, by rw [cell_of_row _ _ _ _ _ _ h]; rfl, by rw [cell_of_row _ _ _ _ _ _ h]; rfl⟩
theorem isEmpty_size (s : ByteArray) : (0 < s.size → s.toList.isEmpty = false) ∧ (¬ 0 < s.size → s.toList.isEmpty = true) := by
  rw [ByteArray.toList_eq, Lib.size_eq]
  cases s.data.toList <;> simp
theorem takeS_le (n : Nat) (s : ByteArray) (q : Bool) : (takeS n s q).size ≤ s.size := by
  unfold takeS
  split
  · exact Nat.le_refl _
  · rw [ByteArray.size_extract]; omega
theorem read_size (k : Nat) (s : ByteArray) (q : Bool) : (readR k s q).s.size ≤ s.size := by
  unfold readR
  split
  · exact takeS_le _ _ _
  · exact takeS_le _ _ _
  · exact takeS_le _ _ _
  · exact takeS_le _ _ _
  · exact Nat.le_trans (takeS_le _ _ _) (takeS_le _ _ _)
theorem get_ref (k : Nat) (hk : k ≤ 4) (s : ByteArray) (hs : s.size ≤ 140737488351232) (w : World) (V : Value) (hV : refV k s = V) : Calls Try.prog 30 #[.int .i64 k, .string s] w fun e w' => e = .returned V ∧ Below w.heap.size w w' := by
  subst hV
  rcases (by omega : k = 0 ∨ k = 1 ∨ k = 2 ∨ k = 3 ∨ k = 4) with rfl | rfl | rfl | rfl | rfl
  · exact get_ref0 s hs w
  · exact get_ref1 s hs w
  · exact get_ref2 s hs w
  · exact get_ref3 s hs w
  · exact get_ref4 s hs w
set_option maxHeartbeats 8000000 in
set_option maxRecDepth 100000 in
theorem reads_walk (w : World) (s : ByteArray) (hs : s.size ≤ 140737488351232) (A : Option Addr) (n c : Nat) (l : List Nat) (hr : Rd w A n (l.map fun x : Nat => Value.int .u8 (x : Int))) (hl : ∀ x ∈ l, x < 256) :
    Calls Try.prog 7 #[.string s, .slice A n c] w fun e w' => e = .returned (.bool true) ∧ Below w.heap.size w w' := by
  have hn9 := hr.2.1
  have HR := Lib.hid hr
  have HL := Lib.hid hl
  have HN : Hid (l.length = n) := Lib.hid (by simpa using hr.len)
  clear hr hl
  by_cases hbig : 100000 < s.size
  · have hbig' : (100000 : Int) < (s.size : Nat) := by omega
    go_enter Try.func7, Try.ntmps7
    go_wp2_with fail
    refine (awake_any w).mono ?_
    rintro e w1 ⟨rfl, hb1⟩
    go_wp2
    go_ret
    exact ⟨rfl, hb1⟩
  have hd1 : decide ((100000 : Int) < (s.size : Nat)) = false := by simp; omega
  by_cases hnb : 100 < n
  · have hnb' : (100 : Int) < (n : Int) := by omega
    go_enter Try.func7, Try.ntmps7
    go_wp2_with fail
    refine (awake_any w).mono ?_
    rintro e w1 ⟨rfl, hb1⟩
    go_wp2
    go_ret
    exact ⟨rfl, hb1⟩
  have hd2 : decide ((100 : Int) < (n : Int)) = false := by simp; omega
  go_enter Try.func7, Try.ntmps7
  go_wp2_with fail
  refine (awake_any w).mono ?_
  rintro e w1 ⟨rfl, hb1⟩
  have HR1 := Lib.hid (HR.out.below hb1)
  have HB1 := Lib.hid hb1
  clear hb1 HR
  go_wp2_with fail
  refine (newreader_any s w1).mono ?_
  rintro e w2 ⟨rfl, hw2⟩
  have hRW := rw_new w1 s
  rw [hw2] at hRW
  obtain ⟨b, hb⟩ : ∃ b, Hid (w1.heap.size = b) := ⟨_, Lib.hid rfl⟩
  obtain ⟨bw, hbw⟩ : ∃ bw, Hid (w2.heap.size = bw) := ⟨_, Lib.hid rfl⟩
  have hbw1 : w1.heap.size + 1 = bw := by rw [← hbw.out, ← hw2]; simp
  obtain ⟨W0, hW0⟩ : ∃ W0, Hid (w2.alloc (.cells #[.pointer none, .slice none 0 0, .bool false] 30) = W0) := ⟨_, Lib.hid rfl⟩
  rw [hW0.out, hbw1, hb.out] at hRW
  have HRW := Lib.hid hRW
  clear hRW hw2 hbw1
  rw [hb.out]
  go_wp2_with fail
  rw [hW0.out, hbw.out]
  clear hd1 hd2
  have hm := th_guard
  go_loopw [7, 8, 30] (fun lf br i wr => ∃ (k c : Nat) (q : Bool) (s0 : ByteArray) (bs : List UInt8), k ≤ n ∧ i = .int .i64 k ∧ lf = .string (s.extract c s.size) ∧ br = .bool q ∧ c ≤ s.size ∧ s0.size ≤ s.size ∧ RW w1 wr [] b bw s0 q bs false ∧ Hid (q = false → s0 = s.extract c s.size ∧ bs = s.data.toList.take c)) (fun _ _ i _ => n - (intOf i).toNat)
  case atStart =>
    have e0 : s.extract 0 s.size = s := by apply ByteArray.ext; simp
    exact ⟨0, 0, false, s, [], by omega, rfl, by rw [e0], rfl, by omega, by omega, HRW.out, Lib.hid fun _ => ⟨by rw [e0], rfl⟩⟩
  case round =>
    obtain ⟨k, c1, q, s0, bs, hk, rfl, rfl, rfl, hc1, hs0, hRW, hq⟩ := hrel
    obtain ⟨L, hL⟩ : ∃ L, Hid (s.extract c1 s.size = L) := ⟨_, Lib.hid rfl⟩
    rw [hL.out] at hq ⊢
    by_cases hlt : k < n
    · obtain ⟨ab, ao, hAe, hc⟩ := (HR1.out.below hRW.low).2.2 (by omega)
      subst hAe
      have hkl : k < l.length := by have := HN.out; omega
      obtain ⟨x, hx⟩ : ∃ x, Hid (x = l[k]) := ⟨_, Lib.hid rfl⟩
      have hx256 : x < 256 := by rw [hx.out]; exact HL.out _ (List.getElem_mem _)
      have d0 := hc k hlt
      rw [List.getElem?_map, List.getElem?_eq_getElem hkl, ← hx.out] at d0
      simp only [Option.map_some] at d0
      obtain ⟨r, hrr⟩ : ∃ r : Nat, Hid (x % 5 = r) := ⟨_, Lib.hid rfl⟩
      have hr4 : Hid (r ≤ 4) := Lib.hid (by rw [← hrr.out]; omega)
      have hri : (x : Int) % 5 = (r : Int) := by rw [← hrr.out]; omega
      clear hc
      cases q
      case true =>
        have HG := Lib.hid (hRW.read (fun hrd => get_broken r hr4.out b s0 (by omega) wr hrd))
        have heq := th_refl r 0 ⟨#[]⟩
        clear hRW
        go_wp2_with fail
        refine HG.out.mono ?_
        rintro e W1 ⟨rfl, h1⟩
        have H1 := Lib.hid (h1.lay (.cells #[.int .i64 r, .int .i64 0, .string ⟨#[]⟩] 32))
        clear h1 HG
        obtain ⟨W2, hW2⟩ : ∃ W2, Hid (W1.alloc (.cells #[.int .i64 r, .int .i64 0, .string ⟨#[]⟩] 32) = W2) := ⟨_, Lib.hid rfl⟩
        rw [hW2.out] at H1
        go_wp2_with fail
        rw [hW2.out]
        refine (left_any b s0 true W2 H1.out.rd 0 rfl).mono ?_
        rintro e W3 ⟨rfl, rfl⟩
        rw [← hL.out]
        go_wp2
        go_roundw
        case rel => exact ⟨k + 1, c1, true, s0, bs, by omega, by go_num, rfl, rfl, hc1, hs0, H1.out.drop, Lib.hid fun h => absurd h (by decide)⟩
        case measure => simp [intOf]; omega
      case false =>
        obtain ⟨eL, hbs⟩ := hq.out rfl
        obtain rfl : s0 = L := eL
        have HBS := Lib.hid hbs
        have hcL : Hid (c1 + s0.size = s.size) := Lib.hid (by rw [← hL.out, ByteArray.size_extract]; omega)
        obtain ⟨o, ho⟩ : ∃ o, Hid (readR r s0 false = o) := ⟨_, Lib.hid rfl⟩
        have HG := Lib.hid (hRW.read (fun hrd => get_read r hr4.out b s0 false (by omega) wr hrd o ho.out))
        have hs0' := Lib.hid hs0
        have hos := read_size r s0 false
        rw [ho.out] at hos
        obtain ⟨on, ot, os, oq⟩ := o
        dsimp only at HG hos
        have hosz : Hid (os.size ≤ s.size) := Lib.hid (Nat.le_trans hos hs0)
        clear hos
        clear hRW hq hbs
        go_wp2_with fail
        refine HG.out.mono ?_
        rintro e W1 ⟨rfl, h1⟩
        obtain ⟨g1, hg1⟩ : ∃ g, Hid (W1.heap.size = g) := ⟨_, Lib.hid rfl⟩
        have H1 := Lib.hid (h1.lay (.cells #[.int .i64 r, .int .i64 on, .string ot] 32))
        clear h1 HG
        obtain ⟨W2, hW2⟩ : ∃ W2, Hid (W1.alloc (.cells #[.int .i64 r, .int .i64 on, .string ot] 32) = W2) := ⟨_, Lib.hid rfl⟩
        rw [hW2.out, hg1.out] at H1
        cases hG : refG r s0 with
        | none =>
          have hoq : Hid (oq = true) := Lib.hid (by have := read_none r hr4.out s0 hG; rw [ho.out] at this; exact this)
          have HC := Lib.hid (get_ref r hr4.out s0 (by have := hs0'.out; omega) W2 _ (by unfold refV; rw [hG]))
          clear hG ho
          go_wp2_with fail
          rw [hW2.out, hg1.out]
          refine HC.out.mono ?_
          rintro e W3 ⟨rfl, hb3⟩
          have H3 := Lib.hid (H1.out.below hb3)
          obtain ⟨W4, hW4⟩ : ∃ W4, Hid (W3.alloc (.cells #[.int .i64 0, .int .i64 0, .string ⟨#[]⟩] 32) = W4) := ⟨_, Lib.hid rfl⟩
          have H4 := Lib.hid (H3.out.below (below_alloc W3 (.cells #[.int .i64 0, .int .i64 0, .string ⟨#[]⟩] 32)))
          rw [hW4.out, hoq.out] at H4
          clear hb3 HC
          go_wp2_with fail
          rw [hW4.out]
          refine (left_any b os true W4 H4.out.rd 0 rfl).mono ?_
          rintro e W5 ⟨rfl, rfl⟩
          go_wp2_with fail
          refine (end_any b os true W4 H4.out.rd 2 rfl).mono ?_
          rintro e W5 ⟨rfl, rfl⟩
          have hos := hosz
          rw [← hL.out]
          go_wp2
          go_roundw
          case rel => exact ⟨k + 1, c1, true, os, bs, by omega, by go_num, rfl, rfl, hc1, hos.out, H4.out.drop, Lib.hid fun h => absurd h (by decide)⟩
          case measure => simp [intOf]; omega
        | some v =>
          obtain ⟨nn, tt, m⟩ := v
          obtain ⟨r1, r2, r3⟩ := read_some r hr4.out s0 nn tt m hG
          obtain ⟨q1, q2, q3⟩ := put_read r hr4.out s0 nn tt m hG
          rw [ho.out] at r1
          injection r1 with e1 e2 e3 e4
          subst e1; subst e2; subst e3; subst e4
          have HC := Lib.hid (get_ref r hr4.out s0 (by have := hs0'.out; omega) W2 _ (by unfold refV; rw [hG]))
          have HQ1 := Lib.hid q1
          have HQ2 := Lib.hid q2
          have HQ3 := Lib.hid q3
          have hm0 : ¬ (m : Int) = 0 := by omega
          have hmb : ((m : Int) == 0) = false := by simpa using hm0
          have heq := th_refl r on ot
          clear hG ho q1 q2 q3 hm0
          go_wp2_with fail
          rw [hW2.out, hg1.out]
          refine HC.out.mono ?_
          rintro e W3 ⟨rfl, hb3⟩
          have H3 := Lib.hid (H1.out.below hb3)
          obtain ⟨g3, hg3⟩ : ∃ g, Hid (W3.heap.size = g) := ⟨_, Lib.hid rfl⟩
          obtain ⟨W4, hW4⟩ : ∃ W4, Hid (W3.alloc (.cells #[.int .i64 r, .int .i64 on, .string ot] 32) = W4) := ⟨_, Lib.hid rfl⟩
          have H4 := Lib.hid (H3.out.lay (.cells #[.int .i64 r, .int .i64 on, .string ot] 32))
          rw [hW4.out, hg3.out] at H4
          have hx4 : W4.heap[g1]? = some (.cells #[.int .i64 r, .int .i64 on, .string ot] 32 (0, 0)) := H4.out.got (by simp)
          have hy4 : W4.heap[g3]? = some (.cells #[.int .i64 r, .int .i64 on, .string ot] 32 (0, 0)) := H4.out.got (by simp)
          obtain ⟨x0, x1, x2⟩ := th_cells hx4
          obtain ⟨y0, y1, y2⟩ := th_cells hy4
          have hx3 : W3.heap[g1]? = some (.cells #[.int .i64 r, .int .i64 on, .string ot] 32 (0, 0)) := H3.out.got (by simp)
          obtain ⟨z0, z1, z2⟩ := th_cells hx3
          have z0' : ∀ o, (W3.alloc o).cell? ⟨g1, 0, none⟩ = some (.int .i64 r) := fun o => cell_below (below_alloc W3 o) z0
          have z1' : ∀ o, (W3.alloc o).cell? ⟨g1, 1, none⟩ = some (.int .i64 on) := fun o => cell_below (below_alloc W3 o) z1
          have z2' : ∀ o, (W3.alloc o).cell? ⟨g1, 2, none⟩ = some (.string ot) := fun o => cell_below (below_alloc W3 o) z2
          clear hx4 hy4 hx3 z0 z1 z2
          obtain ⟨L2, hL2⟩ : ∃ L2, Hid (s0.extract m s0.size = L2) := ⟨_, Lib.hid rfl⟩
          rw [hL2.out] at H4
          have hL2s : Hid (L2.size = s0.size - m) := Lib.hid (by rw [← hL2.out, ByteArray.size_extract]; omega)
          clear hb3 HC
          go_wp2_with fail
          rw [hW4.out, hg3.out, hL2.out]
          refine (left_any b L2 false W4 H4.out.rd L2.size rfl).mono ?_
          rintro e W5 ⟨rfl, rfl⟩
          have HP := Lib.hid (H4.out.write (fun r' hw => put_any bw r' bs false ⟨r, on, ot⟩ W4 hw (by
            have h1 := HQ3.out
            have h2 : bs.length ≤ s.size := by rw [HBS.out, List.length_take, Array.length_toList]; exact Nat.le_trans (Nat.min_le_left _ _) hc1
            have h3 := hs0'.out
            dsimp only
            omega)))
          go_wp2_with fail
          refine HP.out.mono ?_
          rintro e W6 ⟨rfl, h6⟩
          have hok : Hid ((false || !putOk ⟨r, on, ot⟩) = false) := Lib.hid (by rw [HQ2.out]; rfl)
          rw [hok.out, HQ1.out] at h6
          have H6 := Lib.hid h6.drop
          have hfin : Hid (L2 = s.extract (c1 + m) s.size ∧ bs ++ List.take m s0.data.toList = s.data.toList.take (c1 + m)) := Lib.hid (by
            have hcl := hcL.out
            constructor
            · rw [← hL2.out, ← hL.out]
              exact (ext_ext s c1 m (by omega)).2
            · rw [HBS.out, ← hL.out, Lib.extract_to_end, List.take_add]
            )
          clear h6 HP
          rw [hfin.out.1]
          go_wp2
          go_roundw
          case rel => exact ⟨k + 1, c1 + m, false, L2, _, by omega, by go_num, rfl, rfl, by have := hcL.out; omega, by have := hL2s.out; have := hs0'.out; omega, H6.out, Lib.hid fun _ => ⟨hfin.out.1, hfin.out.2⟩⟩
          case measure => simp [intOf]; omega
    · cases q
      case true =>
        have HX := Lib.hid hRW
        clear hRW
        rw [← hL.out]
        go_wp2_with fail
        refine (end_any b s0 true wr HX.out.rd 2 rfl).mono ?_
        rintro e W3 ⟨rfl, rfl⟩
        go_wp2
        go_ret
        exact ⟨rfl, below2 HB1.out HX.out.low⟩
      case false =>
        obtain ⟨eL, hbs⟩ := hq.out rfl
        obtain rfl : s0 = L := eL
        have HBS := Lib.hid hbs
        have HX := Lib.hid hRW
        have hcL : Hid (c1 + s0.size = s.size) := Lib.hid (by rw [← hL.out, ByteArray.size_extract]; omega)
        clear hRW hq hbs
        by_cases h0 : 0 < s0.size
        · have hem : s0.toList.isEmpty = false := (isEmpty_size s0).1 h0
          go_wp2_with fail
          refine (end_any b s0 false wr HX.out.rd 5 (by simp [endR, h0])).mono ?_
          rintro e W3 ⟨rfl, rfl⟩
          go_wp2
          go_ret
          exact ⟨rfl, below2 HB1.out HX.out.low⟩
        · have hem : s0.toList.isEmpty = true := (isEmpty_size s0).2 h0
          go_wp2_with fail
          refine (end_any b s0 false wr HX.out.rd 0 (by simp [endR, h0])).mono ?_
          rintro e W3 ⟨rfl, rfl⟩
          obtain ⟨rr, hw, hlow, _⟩ := HX.out.out
          have HC := Lib.hid (string_any bw rr bs false wr hw.f (by rw [HBS.out, List.length_take, Array.length_toList]; have : s.data.size = s.size := rfl; omega))
          have hsay : Hid (saysB bs false = s) := Lib.hid (by
            have hc2 : c1 = s.size := by have := hcL.out; omega
            rw [HBS.out, hc2]
            show (⟨(List.take s.size s.data.toList).toArray⟩ : ByteArray) = s
            rw [List.take_of_length_le (by rw [Array.length_toList]; exact Nat.le_refl _)])
          rw [hsay.out] at HC
          have HLOW := Lib.hid hlow
          clear hw hlow
          go_wp2_with fail
          refine HC.out.mono ?_
          rintro e W4 ⟨rfl, _, hk4⟩
          go_wp2
          go_ret
          exact ⟨rfl, HB1.out.trans ((HX.out.low.trans (hk4.below HX.out.low.size fun x hx => (HLOW.out x (sub_blks hx)).1)).mono HB1.out.size)⟩
theorem reads_row (w : World) (s : ByteArray) (k : Sl Int) (hs : s.size ≤ 140737488351232) (hk : SlOk w 1 1 (fun n : Int => [.int .u8 n]) (fun n => (Lit.int .u8 n).wf = true) k) :
    Calls Try.prog 7 #[.string s, .slice k.A k.n k.c] w fun e w' => e = .returned (.bool true) ∧ Below w.heap.size w w' := by
  obtain ⟨l, hr, hl⟩ := u8s_rd hk
  exact reads_walk w s hs k.A k.n k.c l hr hl
end Go.Proofs.Ytfpocddpnoighaa.Wr

/- WirePuts, in plain Lean: what was put is found again. -/
namespace Go.Proofs.Ytfpocddpnoighaa.Wr
open Go.RowKit Go.Proofs.Ytfpocddpnoighaa.L Go.Proofs.Ytfpocddpnoighaa.O Go.Proofs.Ytfpocddpnoighaa.A Go.Proofs.Ytfpocddpnoighaa.S Go.Proofs.Ytfpocddpnoighaa.T Go.Proofs.Ytfpocddpnoighaa.E
set_option linter.unusedVariables false
set_option linter.unusedSimpArgs false

def str (l : List UInt8) : ByteArray := ⟨l.toArray⟩
theorem str_size (l : List UInt8) : (str l).size = l.length := by show l.toArray.size = _; simp
theorem str_list (l : List UInt8) : (str l).data.toList = l := rfl
theorem str_ext0 (l : List UInt8) (n : Nat) : (str l).extract 0 n = str (l.take n) := by
  rw [Lib.extract_eq, str_list, List.drop_zero, Nat.sub_zero]; rfl
theorem str_ext (l : List UInt8) (a b : Nat) : (str l).extract a b = str ((l.drop a).take (b - a)) := by
  rw [Lib.extract_eq, str_list]; rfl
theorem str_drop (l : List UInt8) (a : Nat) : (str l).extract a (str l).size = str (l.drop a) := by
  rw [str_ext, str_size, List.take_of_length_le (by simp)]
theorem valB_big : ∀ (n V : Nat), V < 256 ^ n → valB (bigB V n) = V := by
  intro n
  induction n with
  | zero => intro V h; simp at h; subst h; rfl
  | succ n ih =>
    intro V h
    have hV : V = V / 256 * 256 + V % 256 := by omega
    have h1 : V / 256 < 256 ^ n := by rw [Nat.pow_succ] at h; omega
    conv => lhs; rw [hV]
    rw [bigB_snoc _ _ _ (Nat.mod_lt _ (by omega)), valB_snoc, ih _ h1]
    simp
    omega
theorem head_str (n V : Nat) (rest : List UInt8) (hn : n ≤ 8) (hV : V < 256 ^ n) : headV n (str (bigB V n ++ rest)) = V := by
  unfold headV
  rw [str_ext0, List.take_left' (len_big V n), str_list, numV_le _ (by rw [len_big]; omega), valB_big n V hV]
theorem len_str1 (V n : Nat) (rest : List UInt8) : ¬ (str (bigB V n ++ rest)).size < n := by rw [str_size, List.length_append, len_big]; omega
theorem put_found (x : Th) (h0 : 0 ≤ x.k) (h4 : x.k ≤ 4) (hok : putOk x = true) (k : Nat) (hk : x.k = k) : ∃ N T, ∀ rest, refG k (str (putB x ++ rest)) = some (N, T, (putB x).length) := by
  obtain ⟨xk, n, s⟩ := x
  dsimp only at h0 h4 hk
  subst hk
  rcases (by omega : k = 0 ∨ k = 1 ∨ k = 2 ∨ k = 3 ∨ k = 4) with rfl | rfl | rfl | rfl | rfl
  · have e : putB ⟨((0 : Nat) : Int), n, s⟩ = bigB (n % 256).toNat 1 := by
      simp [putB, bigB]
      rw [Nat.mod_eq_of_lt (by omega)]
    refine ⟨wrap64 ((n % 256).toNat : Nat), ⟨#[]⟩, fun rest => ?_⟩
    have hsz := len_str1 (n % 256).toNat 1 rest
    rw [e]
    simp [refG, szOf, hsz, head_str 1 (n % 256).toNat rest (by omega) (by omega), len_big]
  · have e : putB ⟨((1 : Nat) : Int), n, s⟩ = bigB (if n = 1 then 1 else 0) 1 := by
      by_cases h : n = 1
      · simp [putB, h]; rfl
      · simp [putB, h]; rfl
    have hV : (if n = 1 then 1 else 0) ≤ 1 := by split <;> omega
    obtain ⟨V, hVe⟩ : ∃ V, V = (if n = 1 then 1 else 0) := ⟨_, rfl⟩
    rw [← hVe] at e hV
    refine ⟨wrap64 (V : Nat), ⟨#[]⟩, fun rest => ?_⟩
    have hsz := len_str1 V 1 rest
    have hno : ¬ 1 < V := by omega
    rw [e]
    simp [refG, szOf, hsz, head_str 1 V rest (by omega) (by omega), len_big, hno]
  · have hk2 : okN n = true := by simpa [putOk] using hok
    have hn : 0 ≤ n ∧ n ≤ 65535 := by simpa [okN] using hk2
    have e : putB ⟨((2 : Nat) : Int), n, s⟩ = bigB n.toNat 2 := by simp [putB, hk2]
    refine ⟨wrap64 (n.toNat : Nat), ⟨#[]⟩, fun rest => ?_⟩
    have hsz := len_str1 n.toNat 2 rest
    rw [e]
    simp [refG, szOf, hsz, head_str 2 n.toNat rest (by omega) (by omega), len_big]
  · have e : putB ⟨((3 : Nat) : Int), n, s⟩ = bigB (u64 n) 8 := by simp [putB]
    refine ⟨wrap64 (u64 n : Nat), ⟨#[]⟩, fun rest => ?_⟩
    have hsz := len_str1 (u64 n) 8 rest
    have hu : u64 n < 256 ^ 8 := by unfold u64; omega
    rw [e]
    simp [refG, szOf, hsz, head_str 8 (u64 n) rest (by omega) hu, len_big]
  · have hk2 : okN (s.size : Nat) = true := by simpa [putOk] using hok
    have hn : s.size ≤ 65535 := by simp [okN] at hk2; omega
    have e : putB ⟨((4 : Nat) : Int), n, s⟩ = bigB s.size 2 ++ s.data.toList := by simp [putB, textB, hk2]
    refine ⟨0, str s.data.toList, fun rest => ?_⟩
    have hsl : s.data.toList.length = s.size := by rw [Array.length_toList]; rfl
    have hsz : ¬ (str (bigB s.size 2 ++ s.data.toList ++ rest)).size < 2 := by rw [str_size]; simp [len_big]
    have hhd : headV 2 (str (bigB s.size 2 ++ s.data.toList ++ rest)) = s.size := by rw [List.append_assoc]; exact head_str 2 s.size _ (by omega) (by omega)
    have hno : ¬ (str (bigB s.size 2 ++ s.data.toList ++ rest)).size - 2 < s.size := by rw [str_size]; simp [len_big, hsl]
    have hex : (str (bigB s.size 2 ++ s.data.toList ++ rest)).extract 2 (2 + s.size) = str s.data.toList := by
      rw [str_ext, List.append_assoc, List.drop_left' (len_big s.size 2), show 2 + s.size - 2 = s.size by omega, List.take_left' hsl]
    rw [e]
    simp only [refG, szOf, hsz, if_false, hhd, hno, hex]
    simp [len_big, hsl]
/-- the thing read again, of a text that begins with its bytes. -/
theorem read_again (x : Th) (h0 : 0 ≤ x.k) (h4 : x.k ≤ 4) (hok : putOk x = true) (k : Nat) (hk : x.k = k) : ∃ N T, refG k (str (putB x)) = some (N, T, (putB x).length) ∧ ∀ rest, readR k (str (putB x ++ rest)) false = ⟨N, T, str rest, false⟩ := by
  obtain ⟨N, T, h⟩ := put_found x h0 h4 hok k hk
  refine ⟨N, T, by simpa using h [], fun rest => ?_⟩
  obtain ⟨h1, _, _⟩ := read_some k (by omega) _ N T _ (h rest)
  rw [h1, str_drop, List.drop_left' rfl]
end Go.Proofs.Ytfpocddpnoighaa.Wr

/- item, in plain Lean: what was put is read again. -/
namespace Go.Proofs.Ytfpocddpnoighaa.It
open Go.RowKit Go.Proofs.Ytfpocddpnoighaa.L Go.Proofs.Ytfpocddpnoighaa.O Go.Proofs.Ytfpocddpnoighaa.A Go.Proofs.Ytfpocddpnoighaa.R Go.Proofs.Ytfpocddpnoighaa.S Go.Proofs.Ytfpocddpnoighaa.T Go.Proofs.Ytfpocddpnoighaa.E Go.Proofs.Ytfpocddpnoighaa.Wr Go.Proofs.Ytfpocddpnoighaa.F
set_option linter.unusedVariables false
set_option linter.unusedSimpArgs false

theorem take_app (n : Nat) (l1 R : List UInt8) (h : l1.length = n) : takeT n (str (l1 ++ R)) false = str l1 ∧ takeS n (str (l1 ++ R)) false = str R ∧ takeQ n (str (l1 ++ R)) false = false := by
  have hsz : ¬ (str (l1 ++ R)).size < n := by rw [str_size, List.length_append]; omega
  refine ⟨?_, ?_, ?_⟩
  · unfold takeT
    rw [show (false || decide ((str (l1 ++ R)).size < n)) = false by simp [hsz]]
    show (str (l1 ++ R)).extract 0 n = _
    exact (Go.Proofs.Ytfpocddpnoighaa.Wr.str_ext0 (l1 ++ R) n).trans (by rw [List.take_left' h]; rfl)
  · unfold takeS
    rw [show (false || decide ((str (l1 ++ R)).size < n)) = false by simp [hsz]]
    show (str (l1 ++ R)).extract n (str (l1 ++ R)).size = _
    exact (Go.Proofs.Ytfpocddpnoighaa.Wr.str_drop (l1 ++ R) n).trans (by rw [List.drop_left' h]; rfl)
  · unfold takeQ
    simp [hsz]
theorem numT_app (n V : Nat) (R : List UInt8) (hn : n ≤ 8) (hV : V < 256 ^ n) : numT n (str (bigB V n ++ R)) false = V := by
  unfold numT
  rw [(take_app n _ R (len_big V n)).1]
  show numV (bigB V n) = V
  rw [numV_le _ (by rw [len_big]; exact hn), valB_big n V hV]
theorem wrap_u64 (x : Int) (h : -9223372036854775808 ≤ x ∧ x ≤ 9223372036854775807) : wrap64 (u64 x : Nat) = x := by
  unfold u64 wrap64
  omega
theorem nxt_app (x : Int) (R : List UInt8) : nxt (str (bigB (u64 x) 8 ++ R), false) = (str R, false) := by
  obtain ⟨_, h2, h3⟩ := take_app 8 (bigB (u64 x) 8) R (len_big _ _)
  unfold nxt
  rw [h2, h3]
theorem nv_app (x : Int) (h : -9223372036854775808 ≤ x ∧ x ≤ 9223372036854775807) (R : List UInt8) : nv (str (bigB (u64 x) 8 ++ R), false) = x := by
  unfold nv
  rw [numT_app 8 (u64 x) R (by omega) (by have := u64_max x; omega)]
  exact wrap_u64 x h
theorem cnt_app (n : Nat) (R : List UInt8) (h : n ≤ 65535) : cnt (str (bigB n 2 ++ R), false) = n := numT_app 2 n R (by omega) (by omega)
theorem nx2_app (n : Nat) (R : List UInt8) : nx2 (str (bigB n 2 ++ R), false) = (str R, false) := by
  obtain ⟨_, h2, h3⟩ := take_app 2 (bigB n 2) R (len_big _ _)
  unfold nx2
  rw [h2, h3]
theorem flag_big (w : Bool) : [if w then (1 : UInt8) else 0] = bigB (if w then 1 else 0) 1 := by cases w <;> kernel_rfl
theorem bo_app (w : Bool) (R : List UInt8) : bo (str ([if w then 1 else 0] ++ R), false) = (str R, false) ∧ bv (str ([if w then 1 else 0] ++ R), false) = w := by
  obtain ⟨_, h2, h3⟩ := take_app 1 [if w then (1 : UInt8) else 0] R rfl
  have h4 : numT 1 (str ([if w then 1 else 0] ++ R)) false = if w then 1 else 0 := by
    rw [flag_big]
    exact numT_app 1 _ R (by omega) (by split <;> omega)
  unfold bo bv
  rw [h2, h3, h4]
  cases w <;> simp
theorem item_split (x : Im) (R : List UInt8) : itemB x ++ R = bigB (u64 x.c) 8 ++ (bigB (u64 x.v) 8 ++ (bigB (u64 x.l) 8 ++ ([if x.w then 1 else 0] ++ (bigB (u64 x.n) 8 ++ R)))) := by
  simp [itemB, numsB]
theorem item_app (x : Im) (h : goodIm x) (R : List UInt8) : itV (str (itemB x ++ R), false) = x ∧ itS (str (itemB x ++ R), false) = (str R, false) := by
  obtain ⟨h1, h2, h3, h4⟩ := h
  obtain ⟨c, v, l, w, n⟩ := x
  rw [item_split]
  dsimp only at h1 h2 h3 h4 ⊢
  unfold itV itS
  rw [nv_app c h1, nxt_app, nv_app v h2, nxt_app, nv_app l h3, nxt_app, (bo_app w _).1, (bo_app w _).2, nv_app n h4, nxt_app]
  exact ⟨rfl, rfl⟩
theorem items_app : ∀ (l : List Im), (∀ x ∈ l, goodIm x) → ∀ (R : List UInt8), itemsV l.length (str (itemsB l ++ R), false) = l ∧ itSs l.length (str (itemsB l ++ R), false) = (str R, false)
  | [], _, R => ⟨rfl, rfl⟩
  | x :: l, h, R => by
    obtain ⟨h1, h2⟩ := item_app x (h x (by simp)) (itemsB l ++ R)
    obtain ⟨h3, h4⟩ := items_app l (fun y hy => h y (by simp [hy])) R
    have e : itemsB (x :: l) ++ R = itemB x ++ (itemsB l ++ R) := by simp [itemsB]
    rw [e]
    show itV _ :: itemsV l.length (itS _) = _ ∧ itSs l.length (itS _) = _
    rw [h1, h2, h3, h4]
    exact ⟨rfl, rfl⟩
theorem nodes_app : ∀ (l : List Int), (∀ x ∈ l, -9223372036854775808 ≤ x ∧ x ≤ 9223372036854775807) → ∀ (R : List UInt8), nodesV l.length (str (numsB l ++ R), false) = l ∧ nxts l.length (str (numsB l ++ R), false) = (str R, false)
  | [], _, R => ⟨rfl, rfl⟩
  | x :: l, h, R => by
    obtain ⟨h3, h4⟩ := nodes_app l (fun y hy => h y (by simp [hy])) R
    have e : numsB (x :: l) ++ R = bigB (u64 x) 8 ++ (numsB l ++ R) := by simp [numsB]
    rw [e]
    show nv _ :: nodesV l.length (nxt _) = _ ∧ nxts l.length (nxt _) = _
    rw [nv_app x (h x (by simp)), nxt_app, h3, h4]
    exact ⟨rfl, rfl⟩
theorem tid_app (t1 t2 t3 : Int) (h1 : -9223372036854775808 ≤ t1 ∧ t1 ≤ 9223372036854775807) (h2 : -9223372036854775808 ≤ t2 ∧ t2 ≤ 9223372036854775807) (h3 : -9223372036854775808 ≤ t3 ∧ t3 ≤ 9223372036854775807) (R : List UInt8) (o : ByteArray × Bool) (ho : (str (numsB [t1, t2, t3] ++ R), false) = o) : nv o = t1 ∧ nv (nxt o) = t2 ∧ nv (nxt (nxt o)) = t3 ∧ nxt (nxt (nxt o)) = (str R, false) := by
  subst ho
  have e : numsB [t1, t2, t3] ++ R = bigB (u64 t1) 8 ++ (bigB (u64 t2) 8 ++ (bigB (u64 t3) 8 ++ R)) := by simp [numsB]
  rw [e, nv_app t1 h1, nxt_app, nv_app t2 h2, nxt_app, nv_app t3 h3, nxt_app]
  exact ⟨rfl, rfl, rfl, rfl⟩
theorem many_few (n : Nat) (R : List UInt8) (h : n ≤ 16) : manyV (str (bigB n 2 ++ R), false) = n ∧ manyS (str (bigB n 2 ++ R), false) = (str R, false) := by
  unfold manyV manyS
  rw [cnt_app n R (by omega), nx2_app, if_pos h, if_pos h]
  exact ⟨rfl, rfl⟩
theorem many_many (n : Nat) (R : List UInt8) (h : 16 < n) (h2 : n ≤ 65535) : manyV (str (bigB n 2 ++ R), false) = 0 ∧ manyS (str (bigB n 2 ++ R), false) = (str R, true) := by
  unfold manyV manyS
  rw [cnt_app n R h2, nx2_app, if_neg (by omega), if_neg (by omega)]
  exact ⟨rfl, rfl⟩
theorem many_broken (s : ByteArray) : manyV (s, true) = 0 ∧ manyS (s, true) = (s, true) := by
  have h : cnt (s, true) = 0 := by
    unfold cnt numT takeT
    simp [numV]
  unfold manyV manyS nx2 takeS takeQ
  rw [h]
  simp
end Go.Proofs.Ytfpocddpnoighaa.It

/- item: what the readers answer of what was put. -/
namespace Go.Proofs.Ytfpocddpnoighaa.It
open Go.RowKit Go.Proofs.Ytfpocddpnoighaa.L Go.Proofs.Ytfpocddpnoighaa.O Go.Proofs.Ytfpocddpnoighaa.A Go.Proofs.Ytfpocddpnoighaa.R Go.Proofs.Ytfpocddpnoighaa.S Go.Proofs.Ytfpocddpnoighaa.T Go.Proofs.Ytfpocddpnoighaa.E Go.Proofs.Ytfpocddpnoighaa.Wr Go.Proofs.Ytfpocddpnoighaa.F
set_option linter.unusedVariables false
set_option linter.unusedSimpArgs false

theorem flat_at {α : Type} {enc : α → List Value} {sz : Nat} (he : ∀ x, (enc x).length = sz) {j : Nat} (hj : j < sz) : ∀ (xs : List α) (i : Nat), (xs.flatMap enc)[i * sz + j]? = (xs[i]?).bind fun x => (enc x)[j]?
  | [], i => by simp
  | x :: xs, 0 => by
    rw [List.flatMap_cons, List.getElem?_append_left (by rw [he]; omega)]
    simp
  | x :: xs, i + 1 => by
    rw [List.flatMap_cons, List.getElem?_append_right (by rw [he, Nat.succ_mul]; omega), he, show (i + 1) * sz + j - sz = i * sz + j by rw [Nat.succ_mul]; omega, flat_at he hj xs i]
    simp
theorem own_rdE {α : Type} {w : World} {base : Nat} {e : TypeId} {sz : Nat} {v : Value} {n : Nat} {enc : α → List Value} {xs : List α} (h : w.ownsRow base e sz v n (xs.flatMap enc)) (he : ∀ x, (enc x).length = sz) (hxl : xs.length = n) : ∃ A c, v = .slice A n c ∧ RdE w A n sz (xs.map enc) ∧ (∀ o, A = some o → base ≤ o.block) := by
  obtain ⟨hl, h⟩ := h
  have hlen : ∀ e ∈ xs.map enc, e.length = sz := fun e hm => by obtain ⟨a, _, rfl⟩ := List.mem_map.1 hm; exact he a
  rcases h with ⟨rfl, rfl⟩ | ⟨g, cap, cur, rfl, hb, hg, hn, hm, hs, ht⟩
  · exact ⟨none, 0, rfl, ⟨by simpa using hxl, by omega, hlen, fun h0 => absurd h0 (by omega)⟩, fun o ho => by cases ho⟩
  · refine ⟨_, cap, rfl, ⟨by simpa using hxl, by simp only [maxLen] at hm; omega, hlen, fun h0 => ⟨g, 0, rfl, fun i hi j hj => ?_⟩⟩, fun o ho => by injection ho with ho; subst ho; exact hb⟩
    have hlt : i * sz + j < n * sz := by
      have : (i + 1) * sz ≤ n * sz := Nat.mul_le_mul_right sz hi
      rw [Nat.succ_mul] at this; omega
    rw [Nat.zero_add, cell_of_row w g _ cur e _ hg]
    have hf := flat_at he hj xs i
    rw [← ht, List.getElem?_take_of_lt (by omega), Array.getElem?_toList] at hf
    rw [hf, List.getElem?_map, Option.bind_map]
    rfl
theorem tid_back (bi b : Nat) (t1 t2 t3 : Int) (h1 : -9223372036854775808 ≤ t1 ∧ t1 ≤ 9223372036854775807) (h2 : -9223372036854775808 ≤ t2 ∧ t2 ≤ 9223372036854775807) (h3 : -9223372036854775808 ≤ t3 ∧ t3 ≤ 9223372036854775807) (R : List UInt8) (w : World) (h : Rst bi b w (str (numsB [t1, t2, t3] ++ R), false)) (hs : (numsB [t1, t2, t3] ++ R).length ≤ 140737488355328) :
    Calls Try.prog 47 #[.pointer (some ⟨bi, 0, none⟩)] w fun e w' => e = .returned (.agg #[.int .i64 t1, .int .i64 t2, .int .i64 t3]) ∧ Rst bi b w' (str R, false) ∧ Keep [b] w w' := by
  obtain ⟨o, ho⟩ : ∃ o, (str (numsB [t1, t2, t3] ++ R), false) = o := ⟨_, rfl⟩
  obtain ⟨e1, e2, e3, e4⟩ := tid_app t1 t2 t3 h1 h2 h3 R o ho
  have hz : o.1.size ≤ 140737488355328 := by rw [← ho]; show (str _).size ≤ _; rw [str_size]; exact hs
  rw [ho] at h
  refine (tid_read bi b o w h.hbi h.rd h.ne hz).mono ?_
  rintro e w' ⟨he, hr, hk⟩
  rw [e1, e2, e3] at he
  rw [e4] at hr
  exact ⟨he, h.step hr hk, hk⟩
theorem items_few (bi b n : Nat) (l : List Im) (R : List UInt8) (w : World) (h : Rst bi b w (str (bigB n 2 ++ (itemsB l ++ R)), false)) (hl : l.length = n) (hn : n ≤ 16) (hg : ∀ x ∈ l, goodIm x) (hs : (bigB n 2 ++ (itemsB l ++ R)).length ≤ 140737488355328) :
    Calls Try.prog 48 #[.pointer (some ⟨bi, 0, none⟩)] w fun e w' => ∃ A c, e = .returned (.slice A n c) ∧ Ims w' A n l ∧ (∀ o, A = some o → w.heap.size ≤ o.block) ∧ Rst bi b w' (str R, false) ∧ Keep [b] w w' := by
  refine (items_read bi b _ w h (by show (str _).size ≤ _; rw [str_size]; exact hs)).mono ?_
  rintro e w' ⟨v, he, ho, hr, hk⟩
  obtain ⟨m1, m2⟩ := many_few n (itemsB l ++ R) hn
  obtain ⟨a1, a2⟩ := items_app l hg R
  rw [hl] at a1 a2
  rw [m1, m2] at ho hr
  rw [a1] at ho
  rw [a2] at hr
  obtain ⟨A, c, rfl, hrd, hA⟩ := own_rdE ho (fun _ => rfl) hl
  exact ⟨A, c, he, ⟨hrd, hg⟩, hA, hr, hk⟩
theorem items_none (bi b : Nat) (o o' : ByteArray × Bool) (w : World) (h : Rst bi b w o) (hv : manyV o = 0) (hS : manyS o = o') (hs : o.1.size ≤ 140737488355328) :
    Calls Try.prog 48 #[.pointer (some ⟨bi, 0, none⟩)] w fun e w' => ∃ A c, e = .returned (.slice A 0 c) ∧ Rst bi b w' o' ∧ Keep [b] w w' := by
  refine (items_read bi b _ w h hs).mono ?_
  rintro e w' ⟨v, he, ho, hr, hk⟩
  rw [hv, hS] at ho hr
  obtain ⟨A, c, rfl, _, _⟩ := own_rdE (xs := []) ho (fun _ => rfl) rfl
  exact ⟨A, c, he, hr, hk⟩
theorem nodes_few (bi b n : Nat) (l : List Int) (R : List UInt8) (w : World) (h : Rst bi b w (str (bigB n 2 ++ (numsB l ++ R)), false)) (hl : l.length = n) (hn : n ≤ 16) (hg : ∀ x ∈ l, -9223372036854775808 ≤ x ∧ x ≤ 9223372036854775807) (hs : (bigB n 2 ++ (numsB l ++ R)).length ≤ 140737488355328) :
    Calls Try.prog 49 #[.pointer (some ⟨bi, 0, none⟩)] w fun e w' => ∃ A c, e = .returned (.slice A n c) ∧ Rd w' A n (l.map (Value.int .i64)) ∧ Rst bi b w' (str R, false) ∧ Keep [b] w w' := by
  refine (nodes_read bi b _ w h (by show (str _).size ≤ _; rw [str_size]; exact hs)).mono ?_
  rintro e w' ⟨v, he, ho, hr, hk⟩
  obtain ⟨m1, m2⟩ := many_few n (numsB l ++ R) hn
  obtain ⟨a1, a2⟩ := nodes_app l hg R
  rw [hl] at a1 a2
  rw [m1, m2] at ho hr
  rw [a1] at ho
  rw [a2] at hr
  obtain ⟨A, c, rfl, hrd, _⟩ := own_rd ho
  exact ⟨A, c, he, hrd, hr, hk⟩
theorem nodes_none (bi b : Nat) (o o' : ByteArray × Bool) (w : World) (h : Rst bi b w o) (hv : manyV o = 0) (hS : manyS o = o') (hs : o.1.size ≤ 140737488355328) :
    Calls Try.prog 49 #[.pointer (some ⟨bi, 0, none⟩)] w fun e w' => ∃ A c, e = .returned (.slice A 0 c) ∧ Rst bi b w' o' ∧ Keep [b] w w' := by
  refine (nodes_read bi b _ w h hs).mono ?_
  rintro e w' ⟨v, he, ho, hr, hk⟩
  rw [hv, hS] at ho hr
  obtain ⟨A, c, rfl, _, _⟩ := own_rd (xs := []) ho
  exact ⟨A, c, he, hr, hk⟩
/-- a contract, said since w0, whose writer's blocks are S or new. -/
theorem acc3 {w0 w : World} {b : Nat} {S : List Nat} {bs bs' : List UInt8} {bad bad' : Bool} {fn : FuncId} {args : Array Value} {E : Ending → Prop} (h : Wrs w0 b S bs bad w)
    (c : ∀ r, Wr w b r bs bad → (∀ k ∈ blks b r, k ∈ S ∨ w0.heap.size ≤ k) → Calls Try.prog fn args w fun e w' => E e ∧ Wrs w b (blks b r) bs' bad' w') : Calls Try.prog fn args w fun e w' => E e ∧ Wrs w0 b S bs' bad' w' := by
  obtain ⟨r, h1, h2⟩ := h.out
  refine (c r h1 fun k hk => ?_).mono fun e w' ⟨he, hw⟩ => ⟨he, Wrs.step h.keep h.own h2 hw⟩
  rcases mem_blks.1 hk with rfl | hk
  · exact h.own
  · exact h2 k hk
end Go.Proofs.Ytfpocddpnoighaa.It

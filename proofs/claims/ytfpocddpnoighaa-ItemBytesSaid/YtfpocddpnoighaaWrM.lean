/- wire: the document's Put. -/
import Derived.Test.YtfpocddpnoighaaWrL
import Derived.Test.YtfpocddpnoighaaR
namespace Go.Proofs.Ytfpocddpnoighaa.Wr
open Go.RowKit Go.Proofs.Ytfpocddpnoighaa.L Go.Proofs.Ytfpocddpnoighaa.A Go.Proofs.Ytfpocddpnoighaa.S Go.Proofs.Ytfpocddpnoighaa.T Go.Proofs.Ytfpocddpnoighaa.R
set_option linter.unusedVariables false
set_option linter.unusedSimpArgs false

/-- what Put hands back, for the kinds that there are. -/
def putV (x : Th) : Value := .tuple #[.string ⟨(putB x).toArray⟩, .bool (putOk x)]
theorem str_app (a : List UInt8) (s : ByteArray) : (⟨a.toArray⟩ : ByteArray) ++ s = ⟨(a ++ s.data.toList).toArray⟩ := by
  apply ByteArray.ext
  simp
set_option maxHeartbeats 4000000 in
set_option maxRecDepth 100000 in
theorem put_ref (x : Th) (hk0 : 0 ≤ x.k) (hk4 : x.k ≤ 4) (hg : goodTh x) (w : World) :
    Calls Try.prog 29 #[.agg #[.int .i64 x.k, .int .i64 x.n, .string x.s]] w fun e w' => e = .returned (putV x) ∧ Below w.heap.size w w' := by
  obtain ⟨k, n, s⟩ := x
  obtain ⟨v, hv⟩ : ∃ v, Hid (putV ⟨k, n, s⟩ = v) := ⟨_, Lib.hid rfl⟩
  obtain ⟨g1, g2, g3⟩ := hg
  rw [hv.out]
  dsimp only at hk0 hk4 g1 g2 g3 ⊢
  have hv' := hv.out
  simp only [putV, putB, putOk] at hv'
  clear hv
  have HV := Lib.hid hv'
  clear hv'
  obtain ⟨W, hW⟩ : ∃ W, Hid (w.alloc (.cells #[.int .i64 k, .int .i64 n, .string s] 32) = W) := ⟨_, Lib.hid rfl⟩
  have hb0 : Hid (Below w.heap.size w W) := Lib.hid (by rw [← hW.out]; exact below_alloc _ _)
  have hblk : Hid (W.heap[w.heap.size]? = some (.cells #[.int .i64 k, .int .i64 n, .string s] 32 (0, 0))) := Lib.hid (by rw [← hW.out]; exact heap_alloc_new _ _)
  have hsz : Hid (w.heap.size + 1 = W.heap.size) := Lib.hid (by rw [← hW.out]; simp)
  by_cases k0 : k = 0
  · subst k0
    have ev : Hid (v = .tuple #[.string ⟨[UInt8.ofNat (n % 256).toNat].toArray⟩, .bool true]) := Lib.hid (by rw [← HV.out]; simp)
    have hconv : ∀ (w' : World) (c : Int), c = n % 256 → w'.cell? ⟨w.heap.size + 1, 0, none⟩ = some (.int .u8 c) → (convert 26 9 (.slice (some ⟨w.heap.size + 1, 0, none⟩) 1 1)).run Try.prog w' = .ok (.string ⟨[UInt8.ofNat (n % 256).toNat].toArray⟩) w' := fun w' c hc hcell =>
      run_convert_bytes_back w' 26 9 5 ⟨w.heap.size + 1, 0, none⟩ 1 [UInt8.ofNat (n % 256).toNat] (by kernel_rfl) (by kernel_rfl) (by kernel_rfl) (fun j hj => by
        obtain rfl : j = 0 := by simpa using hj
        have hadd : (⟨w.heap.size + 1, 0, none⟩ : Addr).add 0 = ⟨w.heap.size + 1, 0, none⟩ := by unfold Addr.add; split <;> simp_all
        rw [hadd, hcell, hc]
        simp [UInt8.toNat_ofNat']
        omega)
    clear HV
    go_enter Try.func29, Try.ntmps29
    go_wp2
    go_ret2
    exact ⟨retv ev.out.symm, below2 (below_alloc _ _) (below_alloc _ _)⟩
  by_cases k1 : k = 1
  · subst k1
    by_cases n1 : n = 1
    · subst n1
      have ev : Hid (v = .tuple #[.string ⟨(bigB 1 1).toArray⟩, .bool true]) := Lib.hid (by rw [← HV.out]; simp; kernel_rfl)
      clear HV
      go_enter Try.func29, Try.ntmps29
      go_wp2_with fail
      rw [hW.out]
      refine (big_any 1 1 (by omega) (by omega) W).mono ?_
      rintro e w1 ⟨rfl, hb1⟩
      go_wp2
      go_ret2
      exact ⟨retv ev.out.symm, below2 hb0.out hb1⟩
    · have ev : Hid (v = .tuple #[.string ⟨(bigB 0 1).toArray⟩, .bool true]) := Lib.hid (by rw [← HV.out]; simp [n1]; kernel_rfl)
      have n1' : (n == 1) = false := by simpa using n1
      clear HV n1
      go_enter Try.func29, Try.ntmps29
      go_wp2_with fail
      rw [hW.out]
      refine (big_any 0 1 (by omega) (by omega) W).mono ?_
      rintro e w1 ⟨rfl, hb1⟩
      go_wp2
      go_ret2
      exact ⟨retv ev.out.symm, below2 hb0.out hb1⟩
  by_cases k2 : k = 2
  · subst k2
    by_cases hlo : n < 0
    · have ev : Hid (v = .tuple #[.string ⟨#[]⟩, .bool false]) := Lib.hid (by
        have : okN n = false := by simp [okN]; omega
        rw [← HV.out]; simp [this])
      clear HV
      go_enter Try.func29, Try.ntmps29
      go_wp2
      rw [hW.out]
      go_ret2
      exact ⟨retv ev.out.symm, hb0.out⟩
    · by_cases hhi : 65535 < n
      · have ev : Hid (v = .tuple #[.string ⟨#[]⟩, .bool false]) := Lib.hid (by
          have : okN n = false := by simp [okN]; omega
          rw [← HV.out]; simp [this])
        clear HV
        go_enter Try.func29, Try.ntmps29
        go_wp2
        rw [hW.out]
        go_ret2
        exact ⟨retv ev.out.symm, hb0.out⟩
      · obtain ⟨m, rfl⟩ : ∃ m : Nat, n = m := ⟨n.toNat, by omega⟩
        have ev : Hid (v = .tuple #[.string ⟨(bigB m 2).toArray⟩, .bool true]) := Lib.hid (by
          have : okN (m : Int) = true := by simp [okN]; omega
          rw [← HV.out]; simp [this])
        clear HV
        go_enter Try.func29, Try.ntmps29
        go_wp2_with fail
        rw [hW.out]
        refine (big_any m 2 (by omega) (by omega) W).mono ?_
        rintro e w1 ⟨rfl, hb1⟩
        go_wp2
        go_ret2
        exact ⟨retv ev.out.symm, below2 hb0.out hb1⟩
  by_cases k3 : k = 3
  · subst k3
    have ev : Hid (v = .tuple #[.string ⟨(bigB (u64 n) 8).toArray⟩, .bool true]) := Lib.hid (by rw [← HV.out]; simp)
    have hw := u64_wrap n
    have hul : Hid (u64 n < 18446744073709551616) := Lib.hid (by unfold u64; omega)
    obtain ⟨m, hm⟩ : ∃ m, Hid (u64 n = m) := ⟨_, Lib.hid rfl⟩
    rw [hm.out] at hw ev hul
    clear HV
    go_enter Try.func29, Try.ntmps29
    go_wp2_with fail
    rw [hW.out]
    refine (big_any m 8 hul.out (by omega) W).mono ?_
    rintro e w1 ⟨rfl, hb1⟩
    go_wp2
    go_ret2
    exact ⟨retv ev.out.symm, below2 hb0.out hb1⟩
  · obtain rfl : k = 4 := by omega
    by_cases hbig : 65535 < s.size
    · have ev : Hid (v = .tuple #[.string ⟨#[]⟩, .bool false]) := Lib.hid (by
        have : okN (s.size : Nat) = false := by simp [okN]; omega
        rw [← HV.out]; simp [this, textB])
      have hbig' : (65535 : Int) < (s.size : Nat) := by omega
      clear HV
      go_enter Try.func29, Try.ntmps29
      go_wp2
      rw [hW.out]
      go_ret2
      exact ⟨retv ev.out.symm, hb0.out⟩
    · have HR : Hid (v = .tuple #[.string (⟨(bigB s.size 2).toArray⟩ ++ s), .bool true]) := Lib.hid (by
        have : okN (s.size : Nat) = true := by simp [okN]; omega
        rw [← HV.out, str_app]; simp [this, textB])
      have hbig' : ¬ (65535 : Int) < (s.size : Nat) := by omega
      have hcat : ((⟨(bigB s.size 2).toArray⟩ : ByteArray)).size + s.size ≤ 70000 := by
        have : ((⟨(bigB s.size 2).toArray⟩ : ByteArray)).size = 2 := by
          show (bigB s.size 2).toArray.size = 2
          simp [len_big]
        omega
      obtain ⟨hd, hhd⟩ : ∃ hd, Hid ((⟨(bigB s.size 2).toArray⟩ : ByteArray) = hd) := ⟨_, Lib.hid rfl⟩
      rw [hhd.out] at hcat HR
      have hcat2 : ¬ 9223372036854775807 < hd.size + s.size := by omega
      have hwl : IntKind.u64.wrap (s.size : Int) = (s.size : Nat) := by rw [IntKind.wrap_u64]; omega
      have hS0 : w.heap.size + 1 ≤ W.drew.heap.size ∧ Below w.heap.size w W.drew ∧ W.drew.heap[w.heap.size]? = some (.cells #[.int .i64 4, .int .i64 n, .string s] 32 (0, 0)) := ⟨Nat.le_of_eq hsz.out, hb0.out.drew, hblk.out⟩
      clear HV
      go_enter Try.func29, Try.ntmps29
      go_wp2_with fail
      rw [hW.out]
      refine wp_region_one (fun W => w.heap.size + 1 ≤ W.heap.size ∧ Below w.heap.size w W ∧ W.heap[w.heap.size]? = some (.cells #[.int .i64 4, .int .i64 n, .string s] 32 (0, 0))) (fun u v => Below u.heap.size u v) (fun a i => match i with
          | 0 => (fun v _ => v = .pointer (some ⟨w.heap.size, 2, none⟩))
          | 1 => (fun v _ => v = .string s)
          | 2 => (fun v _ => v = .int .i64 (s.size : Nat))
          | 3 => (fun v _ => v = .int .u64 (s.size : Nat))
          | 4 => (fun v _ => v = .string hd)
          | 5 => (fun v _ => v = .pointer (some ⟨w.heap.size, 2, none⟩))
          | 6 => (fun v _ => v = .string s)
          | 7 => (fun v _ => v = .string (hd ++ s))
          | 8 => (fun v _ => v = .string (hd ++ s))
          | 9 => (fun v _ => v = .bool true)
          | _ => (fun _ _ => True)) #[0, 1, 3, 7, 15, 0, 32, 127, 255, 511] #[0, 1, 2, 4, 8, 0, 32, 80, 128, 0] 1023 (by kernel_rfl) 10 rfl (fun m hm => by subst hm; kernel_rfl) (by kernel_rfl) (fun w => Below.refl _ w) (fun u v w h1 h2 => below2 h1 h2) ?_ (hS0) ?_ ?_
      · intro i hi
        rcases (by omega : i = 0 ∨ i = 1 ∨ i = 2 ∨ i = 3 ∨ i = 4 ∨ i = 5 ∨ i = 6 ∨ i = 7 ∨ i = 8 ∨ i = 9) with rfl | rfl | rfl | rfl | rfl | rfl | rfl | rfl | rfl | rfl
        · exact fun v w w' h hr => by exact h
        · exact fun v w w' h hr => by exact h
        · exact fun v w w' h hr => by exact h
        · exact fun v w w' h hr => by exact h
        · exact fun v w w' h hr => by exact h
        · exact fun v w w' h hr => by exact h
        · exact fun v w w' h hr => by exact h
        · exact fun v w w' h hr => by exact h
        · exact fun v w w' h hr => by exact h
        · exact fun v w w' h hr => by exact h
      · intro i hi
        rcases (by omega : i = 0 ∨ i = 1 ∨ i = 2 ∨ i = 3 ∨ i = 4 ∨ i = 5 ∨ i = 6 ∨ i = 7 ∨ i = 8 ∨ i = 9) with rfl | rfl | rfl | rfl | rfl | rfl | rfl | rfl | rfl | rfl
        · -- 0: Op.fieldAddr 32 (Operand.tmp 1) 2
          intro l hl vs W hS hR hp
          obtain rfl : l = [] := hl.symm.trans (by kernel_rfl)
          clear hp hl
          refine opgoal (_) (some 46) rfl rfl fun K hK => ?_
          refine Runs.mk ?_
          simp only [putAll]
          go_simp
          refine hK _ _ ?_ hS ((fun w => Below.refl _ w) W) _ rfl rfl
          first | rfl | go_simp | simp
        · -- 1: Op.load 9 (Operand.tmp 46)
          intro l hl vs W hS hR hp
          obtain rfl : l = [(0, 46)] := hl.symm.trans (by kernel_rfl)
          have p0 : vs 0 = _ := hp 0 (by decide) (by decide)
          clear hp hl
          refine opgoal (_) (some 47) rfl rfl fun K hK => ?_
          have f2 : W.cell? ⟨w.heap.size, 2, none⟩ = some (.string s) := by rw [cell_of_row _ _ _ _ _ _ hS.2.2]; rfl
          refine Runs.mk ?_
          simp only [putAll]
          go_simp
          refine hK _ _ ?_ hS ((fun w => Below.refl _ w) W) _ rfl rfl
          first | rfl | go_simp | simp
        · -- 2: Op.call { callee := Callee.builtin Builtin.len, args := #[Operand.tmp 47], argTypes := #[9] }
          intro l hl vs W hS hR hp
          obtain rfl : l = [(0, 46), (1, 47)] := hl.symm.trans (by kernel_rfl)
          have p1 : vs 1 = _ := hp 1 (by decide) (by decide)
          clear hp hl
          refine opgoal (_) (some 48) rfl rfl fun K hK => ?_
          refine Runs.mk ?_
          simp only [putAll]
          go_simp
          refine hK _ _ ?_ hS ((fun w => Below.refl _ w) W) _ rfl rfl
          first | rfl | go_simp | simp
        · -- 3: Op.convert 3 131 (Operand.tmp 48)
          intro l hl vs W hS hR hp
          obtain rfl : l = [(0, 46), (1, 47), (2, 48)] := hl.symm.trans (by kernel_rfl)
          have p2 : vs 2 = _ := hp 2 (by decide) (by decide)
          clear hp hl
          refine opgoal (_) (some 49) rfl rfl fun K hK => ?_
          refine Runs.mk ?_
          simp only [putAll]
          go_simp
          refine hK _ _ ?_ hS ((fun w => Below.refl _ w) W) _ rfl rfl
          first | rfl | go_simp | simp
        · -- 4: Op.call { callee := Callee.value (Operand.func 87), args := #[Operand.tmp 49, Operand.const (Value.int IntKind.i64 2)], argTypes := #[131, 3] }
          intro l hl vs W hS hR hp
          obtain rfl : l = [(0, 46), (1, 47), (2, 48), (3, 49)] := hl.symm.trans (by kernel_rfl)
          have p3 : vs 3 = _ := hp 3 (by decide) (by decide)
          clear hp hl
          refine opgoal (_) (some 50) rfl rfl fun K hK => ?_
          refine Runs.mk ?_
          simp only [putAll]
          go_simp
          refine (big_any s.size 2 (by omega) (by omega) W).mono ?_
          rintro e w' ⟨he, hb⟩
          rw [hhd.out] at he
          subst he
          go_simp
          exact hK _ _ rfl ⟨Nat.le_trans hS.1 hb.size, below2 hS.2.1 hb, (hb.block _ (by have := hS.1; omega)).trans hS.2.2⟩ hb _ rfl rfl
        · -- 5: Op.fieldAddr 32 (Operand.tmp 1) 2
          intro l hl vs W hS hR hp
          obtain rfl : l = [] := hl.symm.trans (by kernel_rfl)
          clear hp hl
          refine opgoal (_) (some 51) rfl rfl fun K hK => ?_
          refine Runs.mk ?_
          simp only [putAll]
          go_simp
          refine hK _ _ ?_ hS ((fun w => Below.refl _ w) W) _ rfl rfl
          first | rfl | go_simp | simp
        · -- 6: Op.load 9 (Operand.tmp 51)
          intro l hl vs W hS hR hp
          obtain rfl : l = [(5, 51)] := hl.symm.trans (by kernel_rfl)
          have p5 : vs 5 = _ := hp 5 (by decide) (by decide)
          clear hp hl
          refine opgoal (_) (some 52) rfl rfl fun K hK => ?_
          have f2 : W.cell? ⟨w.heap.size, 2, none⟩ = some (.string s) := by rw [cell_of_row _ _ _ _ _ _ hS.2.2]; rfl
          refine Runs.mk ?_
          simp only [putAll]
          go_simp
          refine hK _ _ ?_ hS ((fun w => Below.refl _ w) W) _ rfl rfl
          first | rfl | go_simp | simp
        · -- 7: Op.binOp BinOp.add 9 (Operand.tmp 50) (Operand.tmp 52) 9
          intro l hl vs W hS hR hp
          obtain rfl : l = [(0, 46), (1, 47), (2, 48), (3, 49), (4, 50), (5, 51), (6, 52)] := hl.symm.trans (by kernel_rfl)
          have p4 : vs 4 = _ := hp 4 (by decide) (by decide)
          have p6 : vs 6 = _ := hp 6 (by decide) (by decide)
          clear hp hl
          refine opgoal (_) (some 53) rfl rfl fun K hK => ?_
          refine Runs.mk ?_
          simp only [putAll]
          go_simp
          refine hK _ _ ?_ hS ((fun w => Below.refl _ w) W) _ rfl rfl
          first | rfl | go_simp | simp
        · -- 8: Op.assign (Operand.tmp 53)
          intro l hl vs W hS hR hp
          obtain rfl : l = [(0, 46), (1, 47), (2, 48), (3, 49), (4, 50), (5, 51), (6, 52), (7, 53)] := hl.symm.trans (by kernel_rfl)
          have p7 : vs 7 = _ := hp 7 (by decide) (by decide)
          clear hp hl
          refine opgoal (_) (some 2) rfl rfl fun K hK => ?_
          refine Runs.mk ?_
          simp only [putAll]
          go_simp
          refine hK _ _ ?_ hS ((fun w => Below.refl _ w) W) _ rfl rfl
          first | rfl | go_simp | simp
        · -- 9: Op.assign (Operand.const (Value.bool true))
          intro l hl vs W hS hR hp
          obtain rfl : l = [(0, 46), (1, 47), (2, 48), (3, 49), (4, 50), (5, 51), (6, 52), (7, 53), (8, 2)] := hl.symm.trans (by kernel_rfl)
          clear hp hl
          refine opgoal (_) (some 3) rfl rfl fun K hK => ?_
          refine Runs.mk ?_
          simp only [putAll]
          go_simp
          refine hK _ _ ?_ hS ((fun w => Below.refl _ w) W) _ rfl rfl
          first | rfl | go_simp | simp
      · intro l hl vs W hS hR hp
        obtain rfl : l = [(0, 46), (1, 47), (2, 48), (3, 49), (4, 50), (5, 51), (6, 52), (7, 53), (8, 2), (9, 3)] := hl.symm.trans (by kernel_rfl)
        have p0 : vs 0 = _ := hp 0 (by decide) (by decide)
        have p1 : vs 1 = _ := hp 1 (by decide) (by decide)
        have p2 : vs 2 = _ := hp 2 (by decide) (by decide)
        have p3 : vs 3 = _ := hp 3 (by decide) (by decide)
        have p4 : vs 4 = _ := hp 4 (by decide) (by decide)
        have p5 : vs 5 = _ := hp 5 (by decide) (by decide)
        have p6 : vs 6 = _ := hp 6 (by decide) (by decide)
        have p7 : vs 7 = _ := hp 7 (by decide) (by decide)
        have p8 : vs 8 = _ := hp 8 (by decide) (by decide)
        have p9 : vs 9 = _ := hp 9 (by decide) (by decide)
        clear hp hl
        simp only [putAll_mk, setAll, List.setIfInBounds_toArray, List.set_cons_succ, List.set_cons_zero, p0, p1, p2, p3, p4, p5, p6, p7, p8, p9]
        have HS := Lib.hid hS.2.1
        clear hS hR
        go_wp2
        go_ret2
        exact ⟨retv HR.out.symm, HS.out⟩
end Go.Proofs.Ytfpocddpnoighaa.Wr

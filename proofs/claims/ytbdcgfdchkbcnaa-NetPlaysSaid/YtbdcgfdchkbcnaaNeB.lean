/- slices.Delete of one element of several cells. -/
import Derived.Test.YtbdcgfdchkbcnaaG
import Derived.Deep.RegionLaw
namespace Go.Proofs.Ytbdcgfdchkbcnaa.Ne
open Go.RowKit Go.Proofs.Ytbdcgfdchkbcnaa.L Go.Proofs.Ytbdcgfdchkbcnaa.A Go.Proofs.Ytbdcgfdchkbcnaa.S Go.Proofs.Ytbdcgfdchkbcnaa.T Go.Proofs.Ytbdcgfdchkbcnaa.C Go.Proofs.Ytbdcgfdchkbcnaa.G
set_option linter.unusedVariables false
set_option linter.unusedSimpArgs false

set_option maxHeartbeats 4000000 in
set_option maxRecDepth 1000000 in
theorem delete_any (base g cap n i : Nat) (xs : List Value) (w : World) (h : w.ownsRow base 29 4 (.slice (some ⟨g, 0, none⟩) n cap) n xs) (hi : i < n) (h1c : ∀ u ∈ xs, u.oneCell' = true) :
    Calls Try.prog 65 #[.slice (some ⟨g, 0, none⟩) n cap, .int .i64 i, .int .i64 ((i + 1 : Nat) : Int)] w fun e w' => e = .returned (.slice (some ⟨g, 0, none⟩) (n - 1) cap) ∧ w'.ownsRow base 29 4 (.slice (some ⟨g, 0, none⟩) (n - 1) cap) (n - 1) (xs.take (i * 4) ++ xs.drop ((i + 1) * 4)) ∧ Keep [g] w w' := by
  have hxl : xs.length = n * 4 := h.1
  obtain ⟨_, hbg, hgw, hnc, hcm, hcell, hread⟩ := own_some h
  obtain ⟨i0, hi0, hz0, hz1, hz2⟩ := info_parts (show (Try.prog.info? 29).map (fun i => (i.zero, i.size, i.bytes)) = some (some (.agg #[.int .i64 0, .int .i64 0, .string ⟨#[]⟩, .bool false]), 4, 40) by kernel_rfl)
  obtain ⟨news, hnews⟩ : ∃ news, news = xs.drop ((i + 1) * 4) := ⟨_, rfl⟩
  obtain ⟨j, hj⟩ : ∃ j, j = i + 1 := ⟨_, rfl⟩
  have hlen : news.length = (n - j) * 4 := by rw [hnews, List.length_drop, hxl, hj, Nat.sub_mul]
  obtain ⟨A, hA, hsrc⟩ : ∃ A : Addr, (if cap = j then some (⟨g, 0, none⟩ : Addr) else some ⟨g, j * 4, none⟩) = some A ∧ Hid (∀ t u, news[t]? = some u → w.drew.cell? (A.add t) = some u) := by
    by_cases h : cap = j
    · refine ⟨⟨g, 0, none⟩, by simp [h], fun t u hu => ?_⟩
      have h0 : news.length = 0 := by rw [hlen, show n - j = 0 by omega, Nat.zero_mul]
      rw [List.length_eq_zero_iff.1 h0] at hu
      simp at hu
    · refine ⟨⟨g, j * 4, none⟩, by simp [h], fun t u hu => ?_⟩
      rw [Addr.add_lit]
      rw [hnews, ← hj, List.getElem?_drop] at hu
      exact hread _ _ hu
  have s1 : Hid (news.length = (n - j) * 4) := hlen
  have s2 : Hid (∀ u ∈ news, u.oneCell' = true) := Lib.hid fun u hu => h1c u (by rw [hnews] at hu; exact List.mem_of_mem_drop hu)
  have s3 : Hid (∀ t, t < news.length → (w.drew.cell? ⟨g, 0 + i * 4 + t, none⟩).isSome = true ∧ w.drew.frozen? ⟨g, 0 + i * 4 + t, none⟩ = false) := Lib.hid fun t ht => by
    rw [Nat.zero_add]
    exact hcell _ (by omega)
  obtain ⟨W1, hW1⟩ : ∃ W1, W1 = w.drew.setCells g (0 + i * 4) news := ⟨_, rfl⟩
  have hd : w.drew.ownsRow base 29 4 (.slice (some ⟨g, 0, none⟩) n cap) n xs := h
  obtain ⟨ho1, hk1⟩ := own_puts news (0 + i * 4) w.drew xs hd (by omega)
  rw [← hW1] at ho1 hk1
  have hx2 : xs.take (0 + i * 4) ++ news ++ xs.drop (0 + i * 4 + news.length) = (xs.take (i * 4) ++ xs.drop ((i + 1) * 4)) ++ xs.drop ((n - 1) * 4) := by
    rw [Nat.zero_add, hnews, List.length_drop, hxl, show i * 4 + (n * 4 - (i + 1) * 4) = (n - 1) * 4 by omega]
  rw [hx2] at ho1
  obtain ⟨m, hm⟩ : ∃ m, m = i + (n - j) := ⟨_, rfl⟩
  obtain ⟨_, _, _, _, _, hcell1, _⟩ := own_some ho1
  have hcl : ∀ ty, (Builtin.clear_ #[22] ty #[.slice (some ⟨g, (i + (n - j)) * 4, none⟩) (n - (i + (n - j))) (cap - (i + (n - j)))]).run Try.prog W1 = .ok (.tuple #[]) (W1.setCells g ((i + (n - j)) * 4) (Builtin.zeroCells (Value.agg #[.int .i64 0, .int .i64 0, .string ⟨#[]⟩, .bool false]).cells (n - (i + (n - j)))).toList) :=
    fun ty => run_clear_cells W1 _ 29 ty _ 4 Try.underlying22 (fun w => by kernel_rfl) rfl (by decide) (by decide) g _ _ _ (by omega) (fun t ht => (hcell1 _ (by omega)).1) (fun t ht => (hcell1 _ (by omega)).2)
  have hW : Hid (W1 = w.drew.setCells g (0 + i * 4) news) := hW1
  have X := Lib.hid (And.intro ho1 hk1)
  have hic : i ≤ cap := by omega
  have hjc : j ≤ cap := by omega
  have hjn : j ≤ n := by omega
  have hJ := Lib.hid hj
  rw [← hj]
  have hij : i < j := by omega
  clear hW1 ho1 hk1 hd hcell hread hcell1 h hlen hnews hx2 h1c hj hm
  go_enter Try.func65, Try.ntmps65
  go_wp2_with fail
  go_region_law (refine step_append_room rfl (.tmp 22) (.tmp 25) 22 rfl 29 i0 4 Try.underlying22 hi0 hz1 g 0 i cap (by simp [Act.eval, Act.put]) A (n - j) (cap - j) news (by simp [Act.eval, Act.put]) s1.out hsrc.out s2.out (by omega) s3.out ?_; rw [← hW.out])
  go_wp2
  go_ret
  have hj := hJ.out
  have hm : i + (n - j) = n - 1 := by omega
  rw [hm, hj]
  obtain ⟨ho1, hk1⟩ := X.out
  have hz : (Builtin.zeroCells #[Value.int .i64 0, .int .i64 0, .string ⟨#[]⟩, .bool false] (n - (n - 1))).toList.length = 4 := by rw [len_zeros, show n - (n - 1) = 1 by omega]; rfl
  obtain ⟨ho2, hk2⟩ := own_puts (Builtin.zeroCells #[Value.int .i64 0, .int .i64 0, .string ⟨#[]⟩, .bool false] (n - (n - 1))).toList ((n - 1) * 4) W1 _ ho1 (by omega)
  have ho3 := own_cut ho2 (n - 1) (by omega)
  have hR : (xs.take (i * 4) ++ xs.drop ((i + 1) * 4)).length = (n - 1) * 4 := by rw [List.length_append, List.length_take, List.length_drop, hxl]; omega
  refine ⟨rfl, ?_, ((Keep.refl _ _).drew.trans hk1).trans hk2⟩
  rw [List.append_assoc, List.take_append_of_le_length (by rw [List.length_take, List.length_append, hR]; omega), List.take_take, Nat.min_self, List.take_append_of_le_length (by omega), List.take_of_length_le (by omega)] at ho3
  exact ho3
end Go.Proofs.Ytbdcgfdchkbcnaa.Ne

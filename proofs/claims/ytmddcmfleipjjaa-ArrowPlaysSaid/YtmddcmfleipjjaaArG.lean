/- arrow: the document's New; a book: at, To, Want, Find. -/
import Derived.Test.YtmddcmfleipjjaaArF
namespace Go.Proofs.Ytmddcmfleipjjaa.Ar
open Go.RowKit Go.Proofs.Ytmddcmfleipjjaa.L Go.Proofs.Ytmddcmfleipjjaa.A Go.Proofs.Ytmddcmfleipjjaa.R Go.Proofs.Ytmddcmfleipjjaa.T Go.Proofs.Ytmddcmfleipjjaa.F Go.Proofs.Ytmddcmfleipjjaa.S Go.Proofs.Ytmddcmfleipjjaa.Sp Go.Proofs.Ytmddcmfleipjjaa.G Go.Proofs.Ytmddcmfleipjjaa.O Go.Proofs.Ytmddcmfleipjjaa.E
set_option linter.unusedVariables false
set_option linter.unusedSimpArgs false

set_option maxHeartbeats 2000000 in
theorem rnew_any (a t b : Int) (w : World) (ha : -9223372036854775808 ≤ a ∧ a ≤ 9223372036854775807) (hb : -9223372036854775808 ≤ b ∧ b ≤ 9223372036854775807) (ht : -9223372036854775808 ≤ t ∧ t ≤ 9223372036854775807) :
    Calls Try.prog 17 #[.int .i64 a, .int .i64 t, .int .i64 b] w fun e w' => e = .returned (if towI a b t = 0 then .tuple #[.agg #[.int .i64 0, .int .i64 0, .int .i64 0], .bool false] else .tuple #[.agg #[.int .i64 a, .int .i64 t, .int .i64 (towI a b t)], .bool true]) ∧ Below w.heap.size w w' := by
  obtain ⟨W, hW⟩ : ∃ W, Hid (w.alloc (.cells #[.int .i64 0, .int .i64 0, .int .i64 0] RA) = W) := ⟨_, Lib.hid rfl⟩
  have hb0 : Below w.heap.size w W := by rw [← hW.out]; exact below_alloc _ _
  have h1 : W.heap[w.heap.size]? = some (.cells #[.int .i64 0, .int .i64 0, .int .i64 0] RA (0, 0)) := by rw [← hW.out]; exact heap_alloc_new _ _
  have HZ : Hid (∀ W', Below W.heap.size W W' → W'.heap[w.heap.size]? = some (.cells #[.int .i64 0, .int .i64 0, .int .i64 0] RA (0, 0))) := Lib.hid fun W' hb => keep_block (.of_below (S := []) hb) h1 (by simp)
  have HB := Lib.hid hb0
  have HC := Lib.hid (rpath_any a b t W ha hb ht)
  have htz := tow_zero a b t
  obtain ⟨r, hr⟩ : ∃ r, towI a b t = r := ⟨_, rfl⟩
  have hr2 := hr
  unfold towI at hr2
  rw [hr] at htz ⊢
  obtain ⟨P, hP⟩ : ∃ P, pathL a b t = P := ⟨_, rfl⟩
  rw [hP] at HC hr2 htz
  clear hb0 h1 hr hP
  match P, HC, hr2, htz with
  | [], HC, hr2, htz =>
    rw [if_pos (htz.1 rfl)]
    clear hr2 htz
    go_enter Try.func17, Try.ntmps17
    go_wp2_with fail
    rw [hW.out]
    refine HC.out.mono ?_
    intro e w1 hG
    obtain ⟨A, c, rfl, -, -, -, hb1⟩ := hG.rd
    have HZ1 := Lib.hid (HZ.out w1 hb1)
    have HB1 := Lib.hid (below2 HB.out hb1)
    clear hb1 hG
    go_wp2_with (refine wpList_store_blk rfl RA (.tmp 6) (.tmp 16) rfl w.heap.size 0 rfl RA _ (.agg #[.int .i64 0, .int .i64 0, .int .i64 0]) rfl HZ1.out (by kernel_rfl) (by simp [Value.cells]) (by simp [Value.cells, Value.oneCell']) _ rfl ?_; intro w5 hg5 hu5)
    have r0 : w5.cell? ⟨w.heap.size, 0, none⟩ = some (.int .i64 0) := by rw [cell_of_row w5 _ 0 _ _ _ hg5]; rfl
    have r1 : w5.cell? ⟨w.heap.size, 1, none⟩ = some (.int .i64 0) := by rw [cell_of_row w5 _ 1 _ _ _ hg5]; rfl
    have r2 : w5.cell? ⟨w.heap.size, 2, none⟩ = some (.int .i64 0) := by rw [cell_of_row w5 _ 2 _ _ _ hg5]; rfl
    refine bodyPost_ret (v := .tuple #[.agg #[.int .i64 0, .int .i64 0, .int .i64 0], .bool false]) (by simp [results, Try.results17, go_sem, r0, r1, r2]) rfl ⟨rfl, ?_⟩
    exact HB1.out.trans (hu5.below (Nat.le_refl _))
  | [x], HC, hr2, htz =>
    rw [if_neg (fun h => by have := htz.2 h; cases this)]
    have HR2 : Hid (a = r) := Lib.hid hr2
    clear hr2
    clear htz
    go_enter Try.func17, Try.ntmps17
    go_wp2_with fail
    rw [hW.out]
    refine HC.out.mono ?_
    intro e w1 hG
    obtain ⟨A, c, rfl, -, -, -, hb1⟩ := hG.rd
    have HZ1 := Lib.hid (HZ.out w1 hb1)
    have HB1 := Lib.hid (below2 HB.out hb1)
    clear hb1 hG
    go_wp2_with (refine wpList_store_blk rfl RA (.tmp 6) (.tmp 23) rfl w.heap.size 0 rfl RA _ (.agg #[.int .i64 a, .int .i64 t, .int .i64 a]) rfl HZ1.out (by kernel_rfl) (by simp [Value.cells]) (by simp [Value.cells, Value.oneCell']) _ rfl ?_; intro w5 hg5 hu5)
    have r0 : w5.cell? ⟨w.heap.size, 0, none⟩ = some (.int .i64 a) := by rw [cell_of_row w5 _ 0 _ _ _ hg5]; rfl
    have r1 : w5.cell? ⟨w.heap.size, 1, none⟩ = some (.int .i64 t) := by rw [cell_of_row w5 _ 1 _ _ _ hg5]; rfl
    have r2 : w5.cell? ⟨w.heap.size, 2, none⟩ = some (.int .i64 a) := by rw [cell_of_row w5 _ 2 _ _ _ hg5]; rfl
    refine bodyPost_ret (v := .tuple #[.agg #[.int .i64 a, .int .i64 t, .int .i64 a], .bool true]) (by simp [results, Try.results17, go_sem, r0, r1, r2]) rfl ⟨by rw [← HR2.out], ?_⟩
    exact HB1.out.trans (hu5.below (Nat.le_refl _))
  | x :: y :: P, HC, hr2, htz =>
    rw [if_neg (fun h => by have := htz.2 h; cases this)]
    have HR2 : Hid (y = r) := Lib.hid hr2
    clear hr2
    obtain ⟨ln, hln⟩ : ∃ ln, Hid (P.length = ln) := ⟨_, Lib.hid rfl⟩
    clear htz
    go_enter Try.func17, Try.ntmps17
    go_wp2_with fail
    rw [hW.out]
    refine HC.out.mono ?_
    intro e w1 hG
    obtain ⟨A, c, rfl, hrd, -, hcap, hb1⟩ := hG.rd
    have hrd := hrd.2.2 (by simp)
    obtain ⟨pb, po, hA, hc⟩ := hrd
    have hy0 := hc 1 (by simp)
    subst hA
    have hy1 : w1.cell? ⟨pb, po + 1, none⟩ = some (.int .i64 y) := by rw [hy0]; rfl
    clear hy0
    obtain ⟨nl, hnl⟩ : ∃ nl, (x :: y :: P).length = nl := ⟨_, rfl⟩
    have hn2 : 2 ≤ nl := by rw [← hnl]; simp
    rw [hnl] at hcap ⊢
    clear hnl
    have HZ1 := Lib.hid (HZ.out w1 hb1)
    have HB1 := Lib.hid (below2 HB.out hb1)
    clear hb1 hG hc
    have hd1 : ((nl : Int) == 0) = false := by simp; omega
    have hd2 : ((nl : Int) == 1) = false := by simp; omega
    have hd3 : decide ((nl : Int) = 0) = false := by simp; omega
    have hd4 : decide ((nl : Int) = 1) = false := by simp; omega
    have hn1 : 1 < nl := by omega
    have hz1 : ¬ nl = 0 := by omega
    have hz2 : ¬ nl = 1 := by omega
    go_wp2_with (refine wpList_store_blk rfl RA (.tmp 6) (.tmp 29) rfl w.heap.size 0 rfl RA _ (.agg #[.int .i64 a, .int .i64 t, .int .i64 y]) rfl HZ1.out (by kernel_rfl) (by simp [Value.cells]) (by simp [Value.cells, Value.oneCell']) _ rfl ?_; intro w5 hg5 hu5)
    have r0 : w5.cell? ⟨w.heap.size, 0, none⟩ = some (.int .i64 a) := by rw [cell_of_row w5 _ 0 _ _ _ hg5]; rfl
    have r1 : w5.cell? ⟨w.heap.size, 1, none⟩ = some (.int .i64 t) := by rw [cell_of_row w5 _ 1 _ _ _ hg5]; rfl
    have r2 : w5.cell? ⟨w.heap.size, 2, none⟩ = some (.int .i64 y) := by rw [cell_of_row w5 _ 2 _ _ _ hg5]; rfl
    refine bodyPost_ret (v := .tuple #[.agg #[.int .i64 a, .int .i64 t, .int .i64 y], .bool true]) (by simp [results, Try.results17, go_sem, r0, r1, r2]) rfl ⟨by rw [← HR2.out], ?_⟩
    exact HB1.out.trans (hu5.below (Nat.le_refl _))
end Go.Proofs.Ytmddcmfleipjjaa.Ar

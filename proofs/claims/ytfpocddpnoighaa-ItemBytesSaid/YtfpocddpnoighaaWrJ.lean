/- wire: the law's get. -/
import Derived.Test.YtfpocddpnoighaaWrI
import Derived.Test.YtfpocddpnoighaaWrE
namespace Go.Proofs.Ytfpocddpnoighaa.Wr
open Go.RowKit Go.Proofs.Ytfpocddpnoighaa.L Go.Proofs.Ytfpocddpnoighaa.A Go.Proofs.Ytfpocddpnoighaa.S Go.Proofs.Ytfpocddpnoighaa.T
set_option linter.unusedVariables false
set_option linter.unusedSimpArgs false

theorem thing_size : (Try.prog.info? 32).map (·.size) = some 3 := by kernel_rfl
theorem thing_struct : Try.prog.underlying 32 = some (.struct (Try.prog.fieldsOf 32)) := by kernel_rfl
/-- the blocks of get's result and of its thing. -/
def getW (w : World) (k : Int) : World := (w.alloc (.cells #[.int .i64 0, .int .i64 0, .string ⟨#[]⟩] 32)).alloc (.cells #[.int .i64 k, .int .i64 0, .string ⟨#[]⟩] 32)
theorem getW_below (w : World) (k : Int) : Below w.heap.size w (getW w k) := below2 (below_alloc _ _) (below_alloc _ _)
theorem getW_0 (w : World) (k : Int) : (getW w k).heap[w.heap.size]? = some (.cells #[.int .i64 0, .int .i64 0, .string ⟨#[]⟩] 32 (0, 0)) := by
  unfold getW; rw [heap_alloc_old _ _ (by simp)]; exact heap_alloc_new _ _
theorem getW_1 (w : World) (k : Int) : (getW w k).heap[w.heap.size + 1]? = some (.cells #[.int .i64 k, .int .i64 0, .string ⟨#[]⟩] 32 (0, 0)) := by
  have := heap_alloc_new (w.alloc (.cells #[.int .i64 0, .int .i64 0, .string ⟨#[]⟩] 32)) (.cells #[.int .i64 k, .int .i64 0, .string ⟨#[]⟩] 32)
  simpa [getW] using this
theorem keep_res {S : List Nat} {w W w1 w2 : World} (hb : Below w.heap.size w W) (hk : Keep S W w1) (k2 : Keep [w.heap.size, w.heap.size + 1] w1 w2) : Keep S w w2 := by
  have h1 := (Keep.of_below (S := S) hb).trans hk
  refine ⟨k2.os.trans h1.os, k2.tape.trans h1.tape, k2.output.trans h1.output, Nat.le_trans h1.size k2.size, fun k hk1 hk2 => ?_⟩
  have := h1.size
  exact (k2.block k (by omega) (by simp; omega)).trans (h1.block k hk1 hk2)
set_option maxHeartbeats 4000000 in
set_option maxRecDepth 100000 in
theorem get0 (p : Option Addr) (S : List Nat) (x : Nat) (hx : x < 256) (G : World → Prop) (w : World)
    (hc : ∀ W, Below w.heap.size w W → Calls Try.prog 82 #[.pointer p] W fun e w' => e = .returned (.int .u8 x) ∧ G w' ∧ Keep S W w') (hS : ∀ k ∈ S, k < w.heap.size) (hG : ∀ u v, G u → Keep [w.heap.size, w.heap.size + 1] u v → G v) :
    Calls Try.prog 25 #[.pointer p, .int .i64 0] w fun e w' => e = .returned (.agg #[.int .i64 0, .int .i64 x, .string ⟨#[]⟩]) ∧ G w' ∧ Keep S w w' := by
  have HC := Lib.hid (hc _ (getW_below w 0))
  have HS := Lib.hid hS
  have HG := Lib.hid hG
  have h0 := getW_0 w 0
  have h1 := getW_1 w 0
  have hb := getW_below w 0
  obtain ⟨W, hW⟩ : ∃ W, Hid (getW w 0 = W) := ⟨_, Lib.hid rfl⟩
  rw [hW.out] at HC h0 h1 hb
  have HB := Lib.hid hb
  unfold getW at hW
  clear hc hS hG hb
  go_enter Try.func25, Try.ntmps25
  go_wp2_with fail
  rw [hW.out]
  refine HC.out.mono ?_
  rintro e w1 ⟨rfl, hg, hk⟩
  have b0 := keep_block hk h0 (fun hm => Nat.lt_irrefl _ (HS.out _ hm))
  have b1 := keep_block hk h1 (fun hm => by have := HS.out _ hm; omega)
  have HG1 := Lib.hid hg
  have HK1 := Lib.hid hk
  clear hg hk h0 h1 HC
  have c1 : w1.cell? ⟨w.heap.size + 1, 1, none⟩ = some (.int .i64 0) := by rw [cell_of_row _ _ _ _ _ _ b1]; rfl
  have f1 : w1.frozen? ⟨w.heap.size + 1, 1, none⟩ = false := by simp [World.frozen?, b1]
  have b2 := heap_setCell_at w1 (w.heap.size + 1) 1 _ _ _ (.int .i64 x) b1
  have b3 := (Below.heap_setCell w1 ⟨w.heap.size + 1, 1, none⟩ (.int .i64 x) w.heap.size (by simp)).trans b0
  have HK2 : Hid (Keep [w.heap.size, w.heap.size + 1] w1 (w1.setCell ⟨w.heap.size + 1, 1, none⟩ (.int .i64 x))) := Lib.hid ((Keep.refl _ _).setCell (p := ⟨w.heap.size + 1, 1, none⟩) (.inl (by simp)) _)
  go_wp2_with (first | (refine wpList_load_blk rfl 32 (.tmp 5) rfl (w.heap.size + 1) 0 3 rfl 32 _ (0, 0) _ b2 thing_struct rfl thing_size (by simp) #[.int .i64 0, .int .i64 x, .string ⟨#[]⟩] rfl ?_) | (refine wpList_store_blk rfl 32 (.tmp 4) (.tmp 35) rfl w.heap.size 0 rfl 32 _ (.agg #[.int .i64 0, .int .i64 x, .string ⟨#[]⟩]) rfl b3 thing_size (by simp [Value.cells]) (by simp [Value.cells, Value.oneCell']) _ rfl ?_; intro w5 hg5 hu5))
  have k0 : w5.cell? ⟨w.heap.size, 0, none⟩ = some (.int .i64 0) := by rw [cell_of_row w5 _ 0 _ _ _ hg5]; rfl
  have k1 : w5.cell? ⟨w.heap.size, 1, none⟩ = some (.int .i64 x) := by rw [cell_of_row w5 _ 1 _ _ _ hg5]; rfl
  have k2 : w5.cell? ⟨w.heap.size, 2, none⟩ = some (.string ⟨#[]⟩) := by rw [cell_of_row w5 _ 2 _ _ _ hg5]; rfl
  have HK3 := Lib.hid (HK2.out.trans ((keep_upd hu5).mono (by simp)))
  refine bodyPost_ret (v := .agg #[.int .i64 0, .int .i64 x, .string ⟨#[]⟩]) (by simp [results, Try.results25, go_sem, k0, k1, k2]) rfl ?_
  exact ⟨rfl, HG.out _ _ HG1.out HK3.out, keep_res HB.out HK1.out HK3.out⟩
set_option maxHeartbeats 4000000 in
set_option maxRecDepth 100000 in
theorem get1t (p : Option Addr) (S : List Nat)  (G : World → Prop) (w : World)
    (hc : ∀ W, Below w.heap.size w W → Calls Try.prog 83 #[.pointer p] W fun e w' => e = .returned (.bool true) ∧ G w' ∧ Keep S W w') (hS : ∀ k ∈ S, k < w.heap.size) (hG : ∀ u v, G u → Keep [w.heap.size, w.heap.size + 1] u v → G v) :
    Calls Try.prog 25 #[.pointer p, .int .i64 1] w fun e w' => e = .returned (.agg #[.int .i64 1, .int .i64 1, .string ⟨#[]⟩]) ∧ G w' ∧ Keep S w w' := by
  have HC := Lib.hid (hc _ (getW_below w 1))
  have HS := Lib.hid hS
  have HG := Lib.hid hG
  have h0 := getW_0 w 1
  have h1 := getW_1 w 1
  have hb := getW_below w 1
  obtain ⟨W, hW⟩ : ∃ W, Hid (getW w 1 = W) := ⟨_, Lib.hid rfl⟩
  rw [hW.out] at HC h0 h1 hb
  have HB := Lib.hid hb
  unfold getW at hW
  clear hc hS hG hb
  go_enter Try.func25, Try.ntmps25
  go_wp2_with fail
  rw [hW.out]
  refine HC.out.mono ?_
  rintro e w1 ⟨rfl, hg, hk⟩
  have b0 := keep_block hk h0 (fun hm => Nat.lt_irrefl _ (HS.out _ hm))
  have b1 := keep_block hk h1 (fun hm => by have := HS.out _ hm; omega)
  have HG1 := Lib.hid hg
  have HK1 := Lib.hid hk
  clear hg hk h0 h1 HC
  have c1 : w1.cell? ⟨w.heap.size + 1, 1, none⟩ = some (.int .i64 0) := by rw [cell_of_row _ _ _ _ _ _ b1]; rfl
  have f1 : w1.frozen? ⟨w.heap.size + 1, 1, none⟩ = false := by simp [World.frozen?, b1]
  have b2 := heap_setCell_at w1 (w.heap.size + 1) 1 _ _ _ (.int .i64 1) b1
  have b3 := (Below.heap_setCell w1 ⟨w.heap.size + 1, 1, none⟩ (.int .i64 1) w.heap.size (by simp)).trans b0
  have HK2 : Hid (Keep [w.heap.size, w.heap.size + 1] w1 (w1.setCell ⟨w.heap.size + 1, 1, none⟩ (.int .i64 1))) := Lib.hid ((Keep.refl _ _).setCell (p := ⟨w.heap.size + 1, 1, none⟩) (.inl (by simp)) _)
  go_wp2_with (first | (refine wpList_load_blk rfl 32 (.tmp 5) rfl (w.heap.size + 1) 0 3 rfl 32 _ (0, 0) _ b2 thing_struct rfl thing_size (by simp) #[.int .i64 1, .int .i64 1, .string ⟨#[]⟩] rfl ?_) | (refine wpList_store_blk rfl 32 (.tmp 4) (.tmp 35) rfl w.heap.size 0 rfl 32 _ (.agg #[.int .i64 1, .int .i64 1, .string ⟨#[]⟩]) rfl b3 thing_size (by simp [Value.cells]) (by simp [Value.cells, Value.oneCell']) _ rfl ?_; intro w5 hg5 hu5))
  have k0 : w5.cell? ⟨w.heap.size, 0, none⟩ = some (.int .i64 1) := by rw [cell_of_row w5 _ 0 _ _ _ hg5]; rfl
  have k1 : w5.cell? ⟨w.heap.size, 1, none⟩ = some (.int .i64 1) := by rw [cell_of_row w5 _ 1 _ _ _ hg5]; rfl
  have k2 : w5.cell? ⟨w.heap.size, 2, none⟩ = some (.string ⟨#[]⟩) := by rw [cell_of_row w5 _ 2 _ _ _ hg5]; rfl
  have HK3 := Lib.hid (HK2.out.trans ((keep_upd hu5).mono (by simp)))
  refine bodyPost_ret (v := .agg #[.int .i64 1, .int .i64 1, .string ⟨#[]⟩]) (by simp [results, Try.results25, go_sem, k0, k1, k2]) rfl ?_
  exact ⟨rfl, HG.out _ _ HG1.out HK3.out, keep_res HB.out HK1.out HK3.out⟩
set_option maxHeartbeats 4000000 in
set_option maxRecDepth 100000 in
theorem get1f (p : Option Addr) (S : List Nat)  (G : World → Prop) (w : World)
    (hc : ∀ W, Below w.heap.size w W → Calls Try.prog 83 #[.pointer p] W fun e w' => e = .returned (.bool false) ∧ G w' ∧ Keep S W w') (hS : ∀ k ∈ S, k < w.heap.size) (hG : ∀ u v, G u → Keep [w.heap.size, w.heap.size + 1] u v → G v) :
    Calls Try.prog 25 #[.pointer p, .int .i64 1] w fun e w' => e = .returned (.agg #[.int .i64 1, .int .i64 0, .string ⟨#[]⟩]) ∧ G w' ∧ Keep S w w' := by
  have HC := Lib.hid (hc _ (getW_below w 1))
  have HS := Lib.hid hS
  have HG := Lib.hid hG
  have h0 := getW_0 w 1
  have h1 := getW_1 w 1
  have hb := getW_below w 1
  obtain ⟨W, hW⟩ : ∃ W, Hid (getW w 1 = W) := ⟨_, Lib.hid rfl⟩
  rw [hW.out] at HC h0 h1 hb
  have HB := Lib.hid hb
  unfold getW at hW
  clear hc hS hG hb
  go_enter Try.func25, Try.ntmps25
  go_wp2_with fail
  rw [hW.out]
  refine HC.out.mono ?_
  rintro e w1 ⟨rfl, hg, hk⟩
  have b0 := keep_block hk h0 (fun hm => Nat.lt_irrefl _ (HS.out _ hm))
  have b1 := keep_block hk h1 (fun hm => by have := HS.out _ hm; omega)
  have HG1 := Lib.hid hg
  have HK1 := Lib.hid hk
  clear hg hk h0 h1 HC
  have b2 := b1
  have b3 := b0
  have HK2 : Hid (Keep [w.heap.size, w.heap.size + 1] w1 w1) := Lib.hid (Keep.refl _ _)
  go_wp2_with (first | (refine wpList_load_blk rfl 32 (.tmp 5) rfl (w.heap.size + 1) 0 3 rfl 32 _ (0, 0) _ b2 thing_struct rfl thing_size (by simp) #[.int .i64 1, .int .i64 0, .string ⟨#[]⟩] rfl ?_) | (refine wpList_store_blk rfl 32 (.tmp 4) (.tmp 35) rfl w.heap.size 0 rfl 32 _ (.agg #[.int .i64 1, .int .i64 0, .string ⟨#[]⟩]) rfl b3 thing_size (by simp [Value.cells]) (by simp [Value.cells, Value.oneCell']) _ rfl ?_; intro w5 hg5 hu5))
  have k0 : w5.cell? ⟨w.heap.size, 0, none⟩ = some (.int .i64 1) := by rw [cell_of_row w5 _ 0 _ _ _ hg5]; rfl
  have k1 : w5.cell? ⟨w.heap.size, 1, none⟩ = some (.int .i64 0) := by rw [cell_of_row w5 _ 1 _ _ _ hg5]; rfl
  have k2 : w5.cell? ⟨w.heap.size, 2, none⟩ = some (.string ⟨#[]⟩) := by rw [cell_of_row w5 _ 2 _ _ _ hg5]; rfl
  have HK3 := Lib.hid (HK2.out.trans ((keep_upd hu5).mono (by simp)))
  refine bodyPost_ret (v := .agg #[.int .i64 1, .int .i64 0, .string ⟨#[]⟩]) (by simp [results, Try.results25, go_sem, k0, k1, k2]) rfl ?_
  exact ⟨rfl, HG.out _ _ HG1.out HK3.out, keep_res HB.out HK1.out HK3.out⟩
set_option maxHeartbeats 4000000 in
set_option maxRecDepth 100000 in
theorem get2 (p : Option Addr) (S : List Nat) (x : Int) (G : World → Prop) (w : World)
    (hc : ∀ W, Below w.heap.size w W → Calls Try.prog 84 #[.pointer p] W fun e w' => e = .returned (.int .i64 x) ∧ G w' ∧ Keep S W w') (hS : ∀ k ∈ S, k < w.heap.size) (hG : ∀ u v, G u → Keep [w.heap.size, w.heap.size + 1] u v → G v) :
    Calls Try.prog 25 #[.pointer p, .int .i64 2] w fun e w' => e = .returned (.agg #[.int .i64 2, .int .i64 x, .string ⟨#[]⟩]) ∧ G w' ∧ Keep S w w' := by
  have HC := Lib.hid (hc _ (getW_below w 2))
  have HS := Lib.hid hS
  have HG := Lib.hid hG
  have h0 := getW_0 w 2
  have h1 := getW_1 w 2
  have hb := getW_below w 2
  obtain ⟨W, hW⟩ : ∃ W, Hid (getW w 2 = W) := ⟨_, Lib.hid rfl⟩
  rw [hW.out] at HC h0 h1 hb
  have HB := Lib.hid hb
  unfold getW at hW
  clear hc hS hG hb
  go_enter Try.func25, Try.ntmps25
  go_wp2_with fail
  rw [hW.out]
  refine HC.out.mono ?_
  rintro e w1 ⟨rfl, hg, hk⟩
  have b0 := keep_block hk h0 (fun hm => Nat.lt_irrefl _ (HS.out _ hm))
  have b1 := keep_block hk h1 (fun hm => by have := HS.out _ hm; omega)
  have HG1 := Lib.hid hg
  have HK1 := Lib.hid hk
  clear hg hk h0 h1 HC
  have c1 : w1.cell? ⟨w.heap.size + 1, 1, none⟩ = some (.int .i64 0) := by rw [cell_of_row _ _ _ _ _ _ b1]; rfl
  have f1 : w1.frozen? ⟨w.heap.size + 1, 1, none⟩ = false := by simp [World.frozen?, b1]
  have b2 := heap_setCell_at w1 (w.heap.size + 1) 1 _ _ _ (.int .i64 x) b1
  have b3 := (Below.heap_setCell w1 ⟨w.heap.size + 1, 1, none⟩ (.int .i64 x) w.heap.size (by simp)).trans b0
  have HK2 : Hid (Keep [w.heap.size, w.heap.size + 1] w1 (w1.setCell ⟨w.heap.size + 1, 1, none⟩ (.int .i64 x))) := Lib.hid ((Keep.refl _ _).setCell (p := ⟨w.heap.size + 1, 1, none⟩) (.inl (by simp)) _)
  go_wp2_with (first | (refine wpList_load_blk rfl 32 (.tmp 5) rfl (w.heap.size + 1) 0 3 rfl 32 _ (0, 0) _ b2 thing_struct rfl thing_size (by simp) #[.int .i64 2, .int .i64 x, .string ⟨#[]⟩] rfl ?_) | (refine wpList_store_blk rfl 32 (.tmp 4) (.tmp 35) rfl w.heap.size 0 rfl 32 _ (.agg #[.int .i64 2, .int .i64 x, .string ⟨#[]⟩]) rfl b3 thing_size (by simp [Value.cells]) (by simp [Value.cells, Value.oneCell']) _ rfl ?_; intro w5 hg5 hu5))
  have k0 : w5.cell? ⟨w.heap.size, 0, none⟩ = some (.int .i64 2) := by rw [cell_of_row w5 _ 0 _ _ _ hg5]; rfl
  have k1 : w5.cell? ⟨w.heap.size, 1, none⟩ = some (.int .i64 x) := by rw [cell_of_row w5 _ 1 _ _ _ hg5]; rfl
  have k2 : w5.cell? ⟨w.heap.size, 2, none⟩ = some (.string ⟨#[]⟩) := by rw [cell_of_row w5 _ 2 _ _ _ hg5]; rfl
  have HK3 := Lib.hid (HK2.out.trans ((keep_upd hu5).mono (by simp)))
  refine bodyPost_ret (v := .agg #[.int .i64 2, .int .i64 x, .string ⟨#[]⟩]) (by simp [results, Try.results25, go_sem, k0, k1, k2]) rfl ?_
  exact ⟨rfl, HG.out _ _ HG1.out HK3.out, keep_res HB.out HK1.out HK3.out⟩
set_option maxHeartbeats 4000000 in
set_option maxRecDepth 100000 in
theorem get3 (p : Option Addr) (S : List Nat) (x : Int) (G : World → Prop) (w : World)
    (hc : ∀ W, Below w.heap.size w W → Calls Try.prog 85 #[.pointer p] W fun e w' => e = .returned (.int .i64 x) ∧ G w' ∧ Keep S W w') (hS : ∀ k ∈ S, k < w.heap.size) (hG : ∀ u v, G u → Keep [w.heap.size, w.heap.size + 1] u v → G v) :
    Calls Try.prog 25 #[.pointer p, .int .i64 3] w fun e w' => e = .returned (.agg #[.int .i64 3, .int .i64 x, .string ⟨#[]⟩]) ∧ G w' ∧ Keep S w w' := by
  have HC := Lib.hid (hc _ (getW_below w 3))
  have HS := Lib.hid hS
  have HG := Lib.hid hG
  have h0 := getW_0 w 3
  have h1 := getW_1 w 3
  have hb := getW_below w 3
  obtain ⟨W, hW⟩ : ∃ W, Hid (getW w 3 = W) := ⟨_, Lib.hid rfl⟩
  rw [hW.out] at HC h0 h1 hb
  have HB := Lib.hid hb
  unfold getW at hW
  clear hc hS hG hb
  go_enter Try.func25, Try.ntmps25
  go_wp2_with fail
  rw [hW.out]
  refine HC.out.mono ?_
  rintro e w1 ⟨rfl, hg, hk⟩
  have b0 := keep_block hk h0 (fun hm => Nat.lt_irrefl _ (HS.out _ hm))
  have b1 := keep_block hk h1 (fun hm => by have := HS.out _ hm; omega)
  have HG1 := Lib.hid hg
  have HK1 := Lib.hid hk
  clear hg hk h0 h1 HC
  have c1 : w1.cell? ⟨w.heap.size + 1, 1, none⟩ = some (.int .i64 0) := by rw [cell_of_row _ _ _ _ _ _ b1]; rfl
  have f1 : w1.frozen? ⟨w.heap.size + 1, 1, none⟩ = false := by simp [World.frozen?, b1]
  have b2 := heap_setCell_at w1 (w.heap.size + 1) 1 _ _ _ (.int .i64 x) b1
  have b3 := (Below.heap_setCell w1 ⟨w.heap.size + 1, 1, none⟩ (.int .i64 x) w.heap.size (by simp)).trans b0
  have HK2 : Hid (Keep [w.heap.size, w.heap.size + 1] w1 (w1.setCell ⟨w.heap.size + 1, 1, none⟩ (.int .i64 x))) := Lib.hid ((Keep.refl _ _).setCell (p := ⟨w.heap.size + 1, 1, none⟩) (.inl (by simp)) _)
  go_wp2_with (first | (refine wpList_load_blk rfl 32 (.tmp 5) rfl (w.heap.size + 1) 0 3 rfl 32 _ (0, 0) _ b2 thing_struct rfl thing_size (by simp) #[.int .i64 3, .int .i64 x, .string ⟨#[]⟩] rfl ?_) | (refine wpList_store_blk rfl 32 (.tmp 4) (.tmp 35) rfl w.heap.size 0 rfl 32 _ (.agg #[.int .i64 3, .int .i64 x, .string ⟨#[]⟩]) rfl b3 thing_size (by simp [Value.cells]) (by simp [Value.cells, Value.oneCell']) _ rfl ?_; intro w5 hg5 hu5))
  have k0 : w5.cell? ⟨w.heap.size, 0, none⟩ = some (.int .i64 3) := by rw [cell_of_row w5 _ 0 _ _ _ hg5]; rfl
  have k1 : w5.cell? ⟨w.heap.size, 1, none⟩ = some (.int .i64 x) := by rw [cell_of_row w5 _ 1 _ _ _ hg5]; rfl
  have k2 : w5.cell? ⟨w.heap.size, 2, none⟩ = some (.string ⟨#[]⟩) := by rw [cell_of_row w5 _ 2 _ _ _ hg5]; rfl
  have HK3 := Lib.hid (HK2.out.trans ((keep_upd hu5).mono (by simp)))
  refine bodyPost_ret (v := .agg #[.int .i64 3, .int .i64 x, .string ⟨#[]⟩]) (by simp [results, Try.results25, go_sem, k0, k1, k2]) rfl ?_
  exact ⟨rfl, HG.out _ _ HG1.out HK3.out, keep_res HB.out HK1.out HK3.out⟩
set_option maxHeartbeats 4000000 in
set_option maxRecDepth 100000 in
theorem get4 (p : Option Addr) (S : List Nat) (x : ByteArray) (G : World → Prop) (w : World)
    (hc : ∀ W, Below w.heap.size w W → Calls Try.prog 86 #[.pointer p] W fun e w' => e = .returned (.string x) ∧ G w' ∧ Keep S W w') (hS : ∀ k ∈ S, k < w.heap.size) (hG : ∀ u v, G u → Keep [w.heap.size, w.heap.size + 1] u v → G v) :
    Calls Try.prog 25 #[.pointer p, .int .i64 4] w fun e w' => e = .returned (.agg #[.int .i64 4, .int .i64 0, .string x]) ∧ G w' ∧ Keep S w w' := by
  have HC := Lib.hid (hc _ (getW_below w 4))
  have HS := Lib.hid hS
  have HG := Lib.hid hG
  have h0 := getW_0 w 4
  have h1 := getW_1 w 4
  have hb := getW_below w 4
  obtain ⟨W, hW⟩ : ∃ W, Hid (getW w 4 = W) := ⟨_, Lib.hid rfl⟩
  rw [hW.out] at HC h0 h1 hb
  have HB := Lib.hid hb
  unfold getW at hW
  clear hc hS hG hb
  go_enter Try.func25, Try.ntmps25
  go_wp2_with fail
  rw [hW.out]
  refine HC.out.mono ?_
  rintro e w1 ⟨rfl, hg, hk⟩
  have b0 := keep_block hk h0 (fun hm => Nat.lt_irrefl _ (HS.out _ hm))
  have b1 := keep_block hk h1 (fun hm => by have := HS.out _ hm; omega)
  have HG1 := Lib.hid hg
  have HK1 := Lib.hid hk
  clear hg hk h0 h1 HC
  have c1 : w1.cell? ⟨w.heap.size + 1, 2, none⟩ = some (.string ⟨#[]⟩) := by rw [cell_of_row _ _ _ _ _ _ b1]; rfl
  have f1 : w1.frozen? ⟨w.heap.size + 1, 2, none⟩ = false := by simp [World.frozen?, b1]
  have b2 := heap_setCell_at w1 (w.heap.size + 1) 2 _ _ _ (.string x) b1
  have b3 := (Below.heap_setCell w1 ⟨w.heap.size + 1, 2, none⟩ (.string x) w.heap.size (by simp)).trans b0
  have HK2 : Hid (Keep [w.heap.size, w.heap.size + 1] w1 (w1.setCell ⟨w.heap.size + 1, 2, none⟩ (.string x))) := Lib.hid ((Keep.refl _ _).setCell (p := ⟨w.heap.size + 1, 2, none⟩) (.inl (by simp)) _)
  go_wp2_with (first | (refine wpList_load_blk rfl 32 (.tmp 5) rfl (w.heap.size + 1) 0 3 rfl 32 _ (0, 0) _ b2 thing_struct rfl thing_size (by simp) #[.int .i64 4, .int .i64 0, .string x] rfl ?_) | (refine wpList_store_blk rfl 32 (.tmp 4) (.tmp 35) rfl w.heap.size 0 rfl 32 _ (.agg #[.int .i64 4, .int .i64 0, .string x]) rfl b3 thing_size (by simp [Value.cells]) (by simp [Value.cells, Value.oneCell']) _ rfl ?_; intro w5 hg5 hu5))
  have k0 : w5.cell? ⟨w.heap.size, 0, none⟩ = some (.int .i64 4) := by rw [cell_of_row w5 _ 0 _ _ _ hg5]; rfl
  have k1 : w5.cell? ⟨w.heap.size, 1, none⟩ = some (.int .i64 0) := by rw [cell_of_row w5 _ 1 _ _ _ hg5]; rfl
  have k2 : w5.cell? ⟨w.heap.size, 2, none⟩ = some (.string x) := by rw [cell_of_row w5 _ 2 _ _ _ hg5]; rfl
  have HK3 := Lib.hid (HK2.out.trans ((keep_upd hu5).mono (by simp)))
  refine bodyPost_ret (v := .agg #[.int .i64 4, .int .i64 0, .string x]) (by simp [results, Try.results25, go_sem, k0, k1, k2]) rfl ?_
  exact ⟨rfl, HG.out _ _ HG1.out HK3.out, keep_res HB.out HK1.out HK3.out⟩
end Go.Proofs.Ytfpocddpnoighaa.Wr

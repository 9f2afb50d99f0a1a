/- net: set, Cut, Len; a net that isn't there. -/
import Derived.Test.YtbdcgfdchkbcnaaNeC
import Derived.Test.YtbdcgfdchkbcnaaNeB
namespace Go.Proofs.Ytbdcgfdchkbcnaa.Ne
open Go.RowKit Go.Proofs.Ytbdcgfdchkbcnaa.L Go.Proofs.Ytbdcgfdchkbcnaa.R Go.Proofs.Ytbdcgfdchkbcnaa.S Go.Proofs.Ytbdcgfdchkbcnaa.T
set_option linter.unusedVariables false
set_option linter.unusedSimpArgs false

theorem wpList_way_put {w : World} {b n : Nat} {f : Int → Int → Bool} {ops : Array Oper} {rest : List Oper} {o : Oper} {a : Act} {Q : Exit → Act → World → Prop} (hg : o.guard = none) (m x v : Operand) (hop : o.op = Op.mapUpdate MT m x v)
    (h : WayMap w b n f) (hn : n < 1000000) (kx ky : Int) (vb : Bool) (hx' : (Lit.int .i64 kx).wf = true) (hy' : (Lit.int .i64 ky).wf = true) (hm : a.eval m = .map (some b)) (hx : a.eval x = .agg #[.int .i64 kx, .int .i64 ky]) (hv : a.eval v = .bool vb)
    (hK : ∀ w', WayMap w' b (n + 1) (fun x' y' => if x' = kx ∧ y' = ky then vb else f x' y') → Keep [b] w w' → wpList Try.prog ops Q rest (a.put o.dst undef) w') : wpList Try.prog ops Q (o :: rest) a w := by
  obtain ⟨w', hrun, h1, h2⟩ := way_put h hn kx ky vb hx' hy'
  unfold wy at hrun
  refine wpList_plain hg fun K' hK' => ?_
  unfold Oper.wp
  simp only [execOp, hop, hm, hx, hv, Sem.run_bind, hrun, Result.andThen_ok, Sem.run_pure]
  exact hK' _ _ (hK w' h1 h2)
def upd (f : Int → Int → Bool) (x y : Int) (v : Bool) : Int → Int → Bool := fun x' y' => if x' = mn x y ∧ y' = mx x y then v else f x' y'
set_option maxHeartbeats 2000000 in
set_option maxRecDepth 100000 in
theorem set_ok (b nodes mb n : Nat) (f : Int → Int → Bool) (x y : Int) (cv : Bool) (w : World) (hc : w.cell? ⟨b, 0, none⟩ = some (.int .i64 nodes)) (hc1 : w.cell? ⟨b, 1, none⟩ = some (.map (some mb))) (hm : WayMap w mb n f) (hn : n < 1000000) (hx : (Lit.int .i64 x).wf = true) (hy : (Lit.int .i64 y).wf = true) (hok : okW nodes x y = true) :
    Calls Try.prog 67 #[.pointer (some ⟨b, 0, none⟩), .int .i64 x, .int .i64 y, .bool cv] w fun e w' => e = .returned (.int .i64 0) ∧ WayMap w' mb (n + 1) (upd f x y cv) ∧ Keep [mb] w w' := by
  have HW := Lib.hid (way_any b nodes x y w hc)
  obtain ⟨hwx, hwy⟩ := mn_wf hx hy
  obtain ⟨ff, hff⟩ : ∃ ff, upd f x y cv = ff := ⟨_, rfl⟩
  have HFF := Lib.hid hff
  rw [hff]
  unfold upd at hff
  obtain ⟨lo, hlo⟩ : ∃ lo, mn x y = lo := ⟨_, rfl⟩
  obtain ⟨hh, hhi⟩ : ∃ hh, mx x y = hh := ⟨_, rfl⟩
  rw [hok, hlo, hhi] at HW
  rw [hlo] at hwx
  rw [hhi] at hwy
  rw [hlo, hhi] at hff
  have HF2 := Lib.hid hff
  have HM := Lib.hid hm
  have HC1 := Lib.hid hc1
  have HN := Lib.hid hn
  clear hc hc1 hm hok hlo hhi hff HFF hn
  go_enter Try.func67, Try.ntmps67
  go_wp2_with fail
  refine HW.out.mono ?_
  rintro e w1 ⟨rfl, hb1⟩
  obtain ⟨W, hW⟩ : ∃ W, Hid (w1.alloc (.cells #[.int .i64 lo, .int .i64 hh] 125) = W) := ⟨_, Lib.hid rfl⟩
  have hbW : Below w1.heap.size w1 W := by rw [← hW.out]; exact below_alloc _ _
  have g2 : W.heap[w1.heap.size]? = some (.cells #[.int .i64 lo, .int .i64 hh] 125 (0, 0)) := by rw [← hW.out]; exact heap_alloc_new _ _
  have k0 : W.cell? ⟨w1.heap.size, 0, none⟩ = some (.int .i64 lo) := by rw [cell_of_row W _ 0 _ _ _ g2]; rfl
  have k1 : W.cell? ⟨w1.heap.size, 1, none⟩ = some (.int .i64 hh) := by rw [cell_of_row W _ 1 _ _ _ g2]; rfl
  have HB := Lib.hid (below2 hb1 hbW)
  have c1 := cell_below HB.out HC1.out
  clear hb1 hbW g2
  go_wp2_with (rw [hW.out])
  refine region_tail 6 (by kernel_rfl) (by kernel_rfl) ?_
  intro wz hzs hbz
  have y0 := cell_below hbz k0
  have y1 := cell_below hbz k1
  have y2 := cell_below hbz c1
  have HBZ := Lib.hid (below2 HB.out hbz)
  have HMZ := Lib.hid (HM.out.keep (.of_below (S := []) HBZ.out) (by simp))
  clear k0 k1 c1
  simp only [List.take_succ_cons, List.take_zero, List.drop_succ_cons, List.drop_zero]
  repeat still_step
  refine wpStill_nil ?_
  refine wpList_way_put rfl (.tmp 23) (.tmp 24) (.tmp 25) rfl HMZ.out HN.out lo hh cv hwx hwy rfl rfl rfl ?_
  intro w5 hm5 hk5
  rw [HF2.out] at hm5
  have H5 := Lib.hid (And.intro hm5 hk5)
  clear hm5 hk5 y0 y1 y2 hbz
  go_wp2
  go_ret
  exact ⟨rfl, H5.out.1, (Keep.of_below HBZ.out).trans H5.out.2⟩
theorem cut_ok (b nodes mb n : Nat) (f : Int → Int → Bool) (v : Value) (L : List Value) (k : Nat) (x y : Int) (w : World) (h : Nt w b mb nodes n f v L k) (hn : n < 1000000) (hx : (Lit.int .i64 x).wf = true) (hy : (Lit.int .i64 y).wf = true) (hok : okW nodes x y = true) :
    Calls Try.prog 23 #[.pointer (some ⟨b, 0, none⟩), .int .i64 x, .int .i64 y] w fun e w' => e = .returned (.int .i64 0) ∧ Nt w' b mb nodes (n + 1) (upd f x y true) v L k ∧ Keep [mb] w w' := by
  obtain ⟨c0, c1, c2, f2⟩ := h.cell
  have HS := Lib.hid (set_ok b nodes mb n f x y true w c0 c1 h.map hn hx hy hok)
  have HH := Lib.hid h
  clear h c0 c1 c2 f2
  go_enter Try.func23, Try.ntmps23
  go_wp2_with fail
  refine HS.out.mono ?_
  rintro e w1 ⟨rfl, hm, hk⟩
  go_wp2
  go_ret
  have hmb := HH.out.mb
  exact ⟨rfl, ⟨keep_block hk HH.out.blk (by simp; omega), own_keep HH.out.own hk (fun j hj => by have := (Go.Proofs.Ytbdcgfdchkbcnaa.A.own_lt HH.out.own j hj).1; simp; omega), hm, hmb⟩, hk⟩
theorem len_any (b nodes mb n : Nat) (f : Int → Int → Bool) (v : Value) (L : List Value) (k : Nat) (w : World) (h : Nt w b mb nodes n f v L k) :
    Calls Try.prog 18 #[.pointer (some ⟨b, 0, none⟩)] w fun e w' => e = .returned (.int .i64 k) ∧ w = w' := by
  obtain ⟨c0, c1, c2, f2⟩ := h.cell
  obtain ⟨A, c, hv⟩ : ∃ A c, v = .slice A k c := by
    rcases h.own.2 with ⟨rfl, rfl⟩ | ⟨g, cap, cur, rfl, _⟩
    · exact ⟨none, 0, rfl⟩
    · exact ⟨_, cap, rfl⟩
  rw [hv] at c2
  clear h
  go_enter Try.func18, Try.ntmps18
  go_wp2
  go_ret
  exact ⟨rfl, rfl⟩
/-! ### a net that isn't there -/
theorem len_nil (w : World) : Calls Try.prog 18 #[.pointer none] w fun e w' => e = .returned (.int .i64 0) ∧ w = w' := by
  go_enter Try.func18, Try.ntmps18
  go_wp2
  go_ret
  exact ⟨rfl, rfl⟩
theorem all_nil (w : World) : Calls Try.prog 21 #[.pointer none] w fun e w' => e = .returned (.slice none 0 0) ∧ w = w' := by
  go_enter Try.func21, Try.ntmps21
  go_wp2
  go_ret
  exact ⟨rfl, rfl⟩
theorem healall_nil (w : World) : Calls Try.prog 31 #[.pointer none] w fun e w' => e = .returned (.tuple #[]) ∧ w = w' := by
  go_enter Try.func31, Try.ntmps31
  go_wp2
  go_end0
  exact ⟨rfl, rfl⟩
theorem cut_nil (x y : Int) (w : World) : Calls Try.prog 23 #[.pointer none, .int .i64 x, .int .i64 y] w fun e w' => e = .returned (.int .i64 1) ∧ w = w' := by
  go_enter Try.func23, Try.ntmps23
  go_wp2
  go_ret
  exact ⟨rfl, rfl⟩
theorem heal_nil (x y : Int) (w : World) : Calls Try.prog 24 #[.pointer none, .int .i64 x, .int .i64 y] w fun e w' => e = .returned (.int .i64 1) ∧ w = w' := by
  go_enter Try.func24, Try.ntmps24
  go_wp2
  go_ret
  exact ⟨rfl, rfl⟩
theorem there_nil (x : Int) (w : World) : Calls Try.prog 64 #[.pointer none, .int .i64 x] w fun e w' => e = .returned (.bool false) ∧ w = w' := by
  go_enter Try.func64, Try.ntmps64
  go_wp2
  go_ret
  exact ⟨rfl, rfl⟩
theorem double_nil (x : Int) (w : World) : Calls Try.prog 22 #[.pointer none, .int .i64 x] w fun e w' => e = .returned (.int .i64 8) ∧ w = w' := by
  have HT := Lib.hid (there_nil x w)
  go_enter Try.func22, Try.ntmps22
  go_wp2_with fail
  refine HT.out.mono ?_
  rintro e w1 ⟨rfl, rfl⟩
  go_wp2
  go_ret
  exact ⟨rfl, rfl⟩
theorem spoil_nil (x y z : Int) (w : World) : Calls Try.prog 32 #[.pointer none, .int .i64 x, .int .i64 y, .int .u8 z] w fun e w' => e = .returned (.int .i64 8) ∧ w = w' := by
  have HT := Lib.hid (there_nil x w)
  go_enter Try.func32, Try.ntmps32
  go_wp2_with fail
  refine HT.out.mono ?_
  rintro e w1 ⟨rfl, rfl⟩
  go_wp2
  go_ret
  exact ⟨rfl, rfl⟩
set_option maxHeartbeats 2000000 in
theorem take_nil (x : Int) (w : World) : Calls Try.prog 19 #[.pointer none, .int .i64 x] w fun e w' => e = .returned (.tuple #[.agg #[.int .i64 0, .int .i64 0, .string ⟨#[]⟩, .bool false], .int .i64 8]) ∧ Below w.heap.size w w' := by
  obtain ⟨W, hW⟩ : ∃ W, Hid (w.alloc (.cells #[.int .i64 0, .int .i64 0, .string ⟨#[]⟩, .bool false] 29) = W) := ⟨_, Lib.hid rfl⟩
  have hb0 : Below w.heap.size w W := by rw [← hW.out]; exact below_alloc _ _
  have h1 : Hid (W.heap[w.heap.size]? = some (.cells #[.int .i64 0, .int .i64 0, .string ⟨#[]⟩, .bool false] 29 (0, 0))) := Lib.hid (by rw [← hW.out]; exact heap_alloc_new _ _)
  have HB := Lib.hid hb0
  have HT := Lib.hid (there_nil x W)
  clear hb0
  go_enter Try.func19, Try.ntmps19
  go_wp2_with fail
  rw [hW.out]
  refine HT.out.mono ?_
  rintro e w1 ⟨rfl, rfl⟩
  go_wp2_with (refine wpList_store_blk rfl 29 (.tmp 4) (.tmp 11) rfl w.heap.size 0 rfl 29 _ (.agg #[.int .i64 0, .int .i64 0, .string ⟨#[]⟩, .bool false]) rfl h1.out (by kernel_rfl) (by decide) (by simp [Value.cells, Value.oneCell']) _ rfl ?_; intro w5 hg5 hu5)
  have k0 : w5.cell? ⟨w.heap.size, 0, none⟩ = some (.int .i64 0) := by rw [cell_of_row w5 _ 0 _ _ _ hg5]; rfl
  have k1 : w5.cell? ⟨w.heap.size, 1, none⟩ = some (.int .i64 0) := by rw [cell_of_row w5 _ 1 _ _ _ hg5]; rfl
  have k2 : w5.cell? ⟨w.heap.size, 2, none⟩ = some (.string ⟨#[]⟩) := by rw [cell_of_row w5 _ 2 _ _ _ hg5]; rfl
  have k3 : w5.cell? ⟨w.heap.size, 3, none⟩ = some (.bool false) := by rw [cell_of_row w5 _ 3 _ _ _ hg5]; rfl
  refine bodyPost_ret (v := .tuple #[.agg #[.int .i64 0, .int .i64 0, .string ⟨#[]⟩, .bool false], .int .i64 8]) (by simp [results, Try.results19, go_sem, k0, k1, k2, k3]) rfl ⟨rfl, ?_⟩
  exact HB.out.trans (hu5.below (Nat.le_refl _))
end Go.Proofs.Ytbdcgfdchkbcnaa.Ne

/- the document's Drop. -/
import Derived.Test.YtljdiaokjocfpaaLsT
namespace Go.Proofs.Ytljdiaokjocfpaa.Ls
open Go.RowKit Go.Proofs.Ytljdiaokjocfpaa.L Go.Proofs.Ytljdiaokjocfpaa.O Go.Proofs.Ytljdiaokjocfpaa.A Go.Proofs.Ytljdiaokjocfpaa.R Go.Proofs.Ytljdiaokjocfpaa.S Go.Proofs.Ytljdiaokjocfpaa.T
set_option linter.unusedVariables false
set_option linter.unusedSimpArgs false

def outsV (q : Dh → Bool) (ds : List Dh) : List Value := (ds.filter q).map fun d => Value.int .i64 d.cell
def leftD (q : Dh → Bool) (ds : List Dh) : List Dh := ds.filter fun d => !q d
/-- two rows of the call's own, apart. -/
structure Two (w : World) (B : Nat) (v u : Value) (m j : Nat) (xs ys : List Value) : Prop where
  os : w.ownsRow B 3 1 v m xs
  ls : w.ownsRow B 81 5 u j ys
  ne : ∀ k, v.ownBlock = some k → u.ownBlock ≠ some k
theorem Two.below {w w1 : World} {B : Nat} {v u : Value} {m j : Nat} {xs ys : List Value} (h : Two w B v u m j xs ys) (hb : Below w.heap.size w w1) : Two w1 B v u m j xs ys := ⟨own_kept h.os hb, own_kept h.ls hb, h.ne⟩
theorem Two.fst {w w1 : World} {o : Obj} {B : Nat} {v u v1 : Value} {m j m1 : Nat} {xs ys xs1 : List Value} (h : Two w B v u m j xs ys) (ho : w1.ownsRow B 3 1 v1 m1 xs1) (hg : (w.alloc o).grownBy w1 v.ownBlock) (hv : v1.ownBlock = v.ownBlock ∨ v1.ownBlock = some (w.alloc o).heap.size) : Two w1 B v1 u m1 j xs1 ys := by
  refine ⟨ho, own_grown (h.ls.alloc _) hg fun k hk e => h.ne k e hk, fun k hk e => ?_⟩
  rcases hv with h1 | h1
  · exact h.ne k (h1.symm.trans hk) e
  · rw [h1] at hk
    have := (h.ls.lt k e).2
    simp at hk
    omega
theorem Two.snd {w w1 : World} {o : Obj} {B : Nat} {v u u1 : Value} {m j j1 : Nat} {xs ys ys1 : List Value} (h : Two w B v u m j xs ys) (ho : w1.ownsRow B 81 5 u1 j1 ys1) (hg : (w.alloc o).grownBy w1 u.ownBlock) (hv : u1.ownBlock = u.ownBlock ∨ u1.ownBlock = some (w.alloc o).heap.size) : Two w1 B v u1 m j1 xs ys1 := by
  refine ⟨own_grown (h.os.alloc _) hg fun k hk e => h.ne k hk e, ho, fun k hk e => ?_⟩
  rcases hv with h1 | h1
  · exact h.ne k hk (h1.symm.trans e)
  · rw [h1] at e
    have := (h.os.lt k hk).2
    simp at e
    omega
theorem filter_take {α : Type} (q : α → Bool) (ds : List α) (k : Nat) (h : k < ds.length) : (ds.take (k + 1)).filter q = (ds.take k).filter q ++ if q ds[k] then [ds[k]] else [] := by
  rw [List.take_succ_eq_append_getElem h, List.filter_append]
  congr 1
  cases hq : q ds[k] <;> simp [hq]
def DropDoc (w : World) (bw N : Nat) (q : Dh → Bool) (ds : List Dh) (e : Ending) (w' : World) : Prop :=
  ∃ Ar cr, e = .returned (.slice Ar (ds.filter q).length cr) ∧ Rd w' Ar (ds.filter q).length (outsV q ds) ∧ (∀ p, Ar = some p → w.heap.size ≤ p.block) ∧ (∃ A' ca', Doc w' bw N A' ca' (leftD q ds) ∧ ∀ p, A' = some p → w.heap.size ≤ p.block) ∧ Keep [bw] w w'
theorem Doc.swap {w : World} {bw N B : Nat} {A A' : Option Addr} {ca ca' : Nat} {ds ds' : List Dh} (h : Doc w bw N A ca ds) (ho : w.ownsRow B 81 5 (.slice A' ds'.length ca') ds'.length (encD ds')) (hB : bw < B) (hl : ds'.length ≤ 16) : Doc (w.setCell ⟨bw, 1, none⟩ (.slice A' ds'.length ca')) bw N A' ca' ds' :=
  ⟨(heap_setCell_at w bw 1 _ _ _ _ h.blk).trans rfl, own_mono (ownsRow_setCell_below ho hB _) hB, hl, h.N16⟩
theorem keep_setCell (w : World) (b j : Nat) (u : Value) : Keep [b] w (w.setCell ⟨b, j, none⟩ u) :=
  ⟨rfl, rfl, rfl, by simp, fun k _ hk => heap_setCell_other w ⟨b, j, none⟩ k u (by simpa using hk)⟩
set_option maxHeartbeats 4000000 in
set_option maxRecDepth 100000 in
theorem doc_drop_who (w : World) (bw N : Nat) (A : Option Addr) (ca : Nat) (ds : List Dh) (ta tb tc now : Int) (h : Doc w bw N A ca ds) (q : Dh → Bool) (hq' : ∀ d, q d = tidB d.a d.b d.c ta tb tc) :
    Calls Try.prog 36 #[.pointer (some ⟨bw, 0, none⟩), .bool false, .agg #[.int .i64 ta, .int .i64 tb, .int .i64 tc], .int .i64 now] w (DropDoc w bw N q ds) := by
  obtain ⟨B, hB⟩ : ∃ B, Hid (w.heap.size + 1 = B) := ⟨_, Lib.hid rfl⟩
  have hBw : w.heap.size < B := by rw [← hB.out]; omega
  obtain ⟨W, hW⟩ : ∃ W, Hid (((w.alloc (.cells #[.int .i64 ta, .int .i64 tb, .int .i64 tc] 55)).alloc (.cells #[] 3)).alloc (.cells #[] 81) = W) := ⟨_, Lib.hid rfl⟩
  have hal : Below w.heap.size w W := by rw [← hW.out]; exact below2 (below2 (below_alloc _ _) (below_alloc _ _)) (below_alloc _ _)
  have hBW : B ≤ W.heap.size := by rw [← hW.out, ← hB.out]; simp
  have hy : W.heap[w.heap.size]? = some (.cells #[.int .i64 ta, .int .i64 tb, .int .i64 tc] 55) := by
    rw [← hW.out, at_alloc, if_neg (by simp; omega), at_alloc, if_neg (by simp), at_alloc, if_pos rfl]
  have y0 : W.cell? ⟨w.heap.size, 0, none⟩ = some (.int .i64 ta) := by rw [cell_of_row _ _ _ _ _ _ hy]; rfl
  have y1 : W.cell? ⟨w.heap.size, 1, none⟩ = some (.int .i64 tb) := by rw [cell_of_row _ _ _ _ _ _ hy]; rfl
  have y2 : W.cell? ⟨w.heap.size, 2, none⟩ = some (.int .i64 tc) := by rw [cell_of_row _ _ _ _ _ _ hy]; rfl
  clear hy
  have hTw : Hid (Two W B (.slice (some ⟨w.heap.size + 1, 0, none⟩) 0 0) (.slice (some ⟨w.heap.size + 1 + 1, 0, none⟩) 0 0) 0 0 [] []) := Lib.hid (by
    rw [← hW.out, ← hB.out]
    have e1 : (w.alloc (.cells #[.int .i64 ta, .int .i64 tb, .int .i64 tc] 55)).heap.size = w.heap.size + 1 := by simp
    have e2 : ((w.alloc (.cells #[.int .i64 ta, .int .i64 tb, .int .i64 tc] 55)).alloc (.cells #[] 3)).heap.size = w.heap.size + 1 + 1 := by simp
    refine ⟨?_, ?_, fun k hk e => ?_⟩
    · have := World.ownsRow_lit (base := w.heap.size + 1) (e := 3) (size := 1) (w.alloc (.cells #[.int .i64 ta, .int .i64 tb, .int .i64 tc] 55)) #[] 0 (by simp) (by decide) rfl
      rw [e1] at this
      exact this.alloc _
    · have := World.ownsRow_lit (base := w.heap.size + 1) (e := 81) (size := 5) ((w.alloc (.cells #[.int .i64 ta, .int .i64 tb, .int .i64 tc] 55)).alloc (.cells #[] 3)) #[] 0 (by simp) (by decide) rfl
      rw [e2] at this
      exact this
    · simp [Value.ownBlock] at hk e; omega)
  have hD0 := Lib.hid h
  have hc1 := (h.below hal).c1
  have hbl := h.lt
  have hln := h.len
  clear h
  have hq := Lib.hid hq'
  clear hq'
  obtain ⟨n, hn⟩ : ∃ n, Hid (ds.length = n) := ⟨_, Lib.hid rfl⟩
  rw [hn.out] at hc1 hln
  have hm := tid_guard
  go_enter Try.func36, Try.ntmps36
  go_wp2_with fail
  rw [hW.out]
  go_loopw [9, 10, 11] (fun v u i wr => ∃ k m j : Nat, k ≤ n ∧ m ≤ k ∧ j ≤ k ∧ i = .int .i64 k ∧ Below B W wr ∧ Two wr B v u m j (outsV q (ds.take k)) (encD (leftD q (ds.take k))) ∧ Hid (((ds.take k).filter q).length = m ∧ (leftD q (ds.take k)).length = j)) (fun _ _ i _ => n - (intOf i).toNat)
  case atStart => exact ⟨0, 0, 0, by omega, by omega, by omega, rfl, Below.refl _ _, hTw.out, Lib.hid ⟨rfl, rfl⟩⟩
  case round =>
    obtain ⟨k, m, j, hk, hmk, hjk, rfl, hb, hT, hmj⟩ := hrel
    have hb0 : Below w.heap.size w wr := hal.trans (hb.mono (by omega))
    have hc2 := (hD0.out.below hb0).c1
    rw [hn.out] at hc2
    have hwr : B ≤ wr.heap.size := Nat.le_trans hBW hb.size
    by_cases hlt : k < n
    · have hkl : k < ds.length := by rw [hn.out]; exact hlt
      obtain ⟨d, hd⟩ : ∃ d, Hid (ds[k] = d) := ⟨_, Lib.hid rfl⟩
      obtain ⟨g, rfl, hg1, hg2, e0, e1, e2, e3, e4⟩ := (hD0.out.below hb0).row k hkl d hd.out
      have z0 := (World.cell?_of_block (w := W) (a := ⟨w.heap.size, 0, none⟩) (hb.block w.heap.size hBw)).trans y0
      have z1 := (World.cell?_of_block (w := W) (a := ⟨w.heap.size, 1, none⟩) (hb.block w.heap.size hBw)).trans y1
      have z2 := (World.cell?_of_block (w := W) (a := ⟨w.heap.size, 2, none⟩) (hb.block w.heap.size hBw)).trans y2
      have hf1 := Lib.hid (filter_take q ds k hkl)
      have hf2 : Hid (leftD q (ds.take (k + 1)) = leftD q (ds.take k) ++ if (!q ds[k]) then [ds[k]] else []) := Lib.hid (filter_take (fun d => !q d) ds k hkl)
      rw [hd.out] at hf1 hf2
      have hqd := hq.out d
      obtain ⟨r, hr⟩ : ∃ r, Hid (q d = r) := ⟨_, Lib.hid rfl⟩
      rw [hr.out] at hqd hf1 hf2
      have HQ := Lib.hid hqd.symm
      clear hqd
      clear hd
      obtain ⟨dc, da, db, dd, du⟩ := d
      dsimp only at e0 e1 e2 e3 e4 HQ
      have hq1 : ∀ w, (Op.equalIn 10000 55 (.agg #[.int .i64 da, .int .i64 db, .int .i64 dd]) (.agg #[.int .i64 ta, .int .i64 tb, .int .i64 tc])).run Try.prog w = .ok r w := fun w => by rw [tid_eq, HQ.out]
      have HT := Lib.hid hT
      clear hT
      cases r
      · go_wp2
        go_quiet (fail)
        obtain ⟨Wq, hWq⟩ : ∃ Wq, Hid (wr.drewN nq = Wq) := ⟨_, Lib.hid rfl⟩
        rw [hWq.out]
        have hbq : Below wr.heap.size wr Wq := by rw [← hWq.out]; exact below_drewN _ _
        have x0 := cell_below hbq e0
        have x1 := cell_below hbq e1
        have x2 := cell_below hbq e2
        have x3 := cell_below hbq e3
        have x4 := cell_below hbq e4
        have xc := cell_below hbq hc2
        have HTq := Lib.hid (HT.out.below hbq)
        have hBq : B ≤ (Wq.alloc (.cells #[.int .i64 dc, .int .i64 da, .int .i64 db, .int .i64 dd, .int .i64 du] 81)).heap.size := by have := hbq.size; simp; omega
        have HBq : Hid (Below B W Wq) := Lib.hid (hb.trans (hbq.mono (by omega)))
        clear e0 e1 e2 e3 e4 hc2 z0 z1 z2 hbq hq1 HT
        go_wp2_with (at_builtin; refine wpList_append_src _ rfl (.tmp 63) (.tmp 71) B 71 81 (.agg #[.int .i64 0, .int .i64 0, .int .i64 0, .int .i64 0, .int .i64 0]) 5 40 rfl (by kernel_rfl) (by kernel_rfl) rfl (by decide) (by decide) _ j _ rfl (HTq.out.ls.alloc _) (some ⟨Wq.heap.size, 0, none⟩) 1 1 rfl (fun h => by cases h) [.int .i64 dc, .int .i64 da, .int .i64 db, .int .i64 dd, .int .i64 du] rfl (lies_block (heap_alloc_new _ _)) (by simp [Value.oneCell']) (by omega) hBq ?_; intro v1 w6 ho6 hg6 hv6)
        have hT6 := Lib.hid (HTq.out.snd ho6 hg6 hv6)
        have hb6 := Lib.hid (HBq.out.trans (((Below.refl B Wq).alloc (Nat.le_trans hBW HBq.out.size) _).trans (below_of_grown hg6 hBq fun k hk => (HTq.out.ls.lt k hk).1)))
        have hk1 : Hid (outsV q (ds.take (k + 1)) = outsV q (ds.take k) ∧ encD (leftD q (ds.take (k + 1))) = encD (leftD q (ds.take k)) ++ [.int .i64 dc, .int .i64 da, .int .i64 db, .int .i64 dd, .int .i64 du]) := Lib.hid ⟨by simp [outsV, hf1.out], by rw [hf2.out, encD_app]; simp [encD, Dh.enc]⟩
        have hk2 : Hid (((ds.take (k + 1)).filter q).length = m ∧ (leftD q (ds.take (k + 1))).length = j + 1) := Lib.hid ⟨by rw [hf1.out]; simp [hmj.out.1], by rw [hf2.out]; simp [hmj.out.2]⟩
        clear ho6 hg6 hv6
        go_wp2
        go_roundw
        case rel => exact ⟨k + 1, m, j + 1, by omega, by omega, by omega, by go_num, hb6.out, by rw [hk1.out.1, hk1.out.2]; exact hT6.out, hk2.out⟩
        case measure => simp [intOf]; omega
      · go_wp2
        go_quiet (fail)
        obtain ⟨Wq, hWq⟩ : ∃ Wq, Hid (wr.drewN nq = Wq) := ⟨_, Lib.hid rfl⟩
        rw [hWq.out]
        have hbq : Below wr.heap.size wr Wq := by rw [← hWq.out]; exact below_drewN _ _
        have x0 := cell_below hbq e0
        have xc := cell_below hbq hc2
        have HTq := Lib.hid (HT.out.below hbq)
        have hBq : B ≤ (Wq.alloc (.cells #[.int .i64 dc] 3)).heap.size := by have := hbq.size; simp; omega
        have HBq : Hid (Below B W Wq) := Lib.hid (hb.trans (hbq.mono (by omega)))
        clear e0 e1 e2 e3 e4 hc2 z0 z1 z2 hbq hq1 HT
        go_wp2_with (at_builtin; refine wpList_append_src _ rfl (.tmp 52) (.tmp 61) B 35 3 (.int .i64 0) 1 8 rfl (by kernel_rfl) (by kernel_rfl) rfl (by decide) (by decide) _ m _ rfl (HTq.out.os.alloc _) (some ⟨Wq.heap.size, 0, none⟩) 1 1 rfl (fun h => by cases h) [.int .i64 dc] rfl (lies_block (heap_alloc_new _ _)) (by simp [Value.oneCell']) (by omega) hBq ?_; intro v1 w6 ho6 hg6 hv6)
        have hT6 := Lib.hid (HTq.out.fst ho6 hg6 hv6)
        have hb6 := Lib.hid (HBq.out.trans (((Below.refl B Wq).alloc (Nat.le_trans hBW HBq.out.size) _).trans (below_of_grown hg6 hBq fun k hk => (HTq.out.os.lt k hk).1)))
        have hk1 : Hid (outsV q (ds.take (k + 1)) = outsV q (ds.take k) ++ [.int .i64 dc] ∧ encD (leftD q (ds.take (k + 1))) = encD (leftD q (ds.take k))) := Lib.hid ⟨by simp [outsV, hf1.out], by rw [hf2.out]; simp⟩
        have hk2 : Hid (((ds.take (k + 1)).filter q).length = m + 1 ∧ (leftD q (ds.take (k + 1))).length = j) := Lib.hid ⟨by rw [hf1.out]; simp [hmj.out.1], by rw [hf2.out]; simp [hmj.out.2]⟩
        clear ho6 hg6 hv6
        go_wp2
        go_roundw
        case rel => exact ⟨k + 1, m + 1, j, by omega, by omega, by omega, by go_num, hb6.out, by rw [hk1.out.1, hk1.out.2]; exact hT6.out, hk2.out⟩
        case measure => simp [intOf]; omega
    · rw [List.take_of_length_le (by rw [hn.out]; omega)] at hT hmj
      obtain ⟨Ar, cr, rfl⟩ := own_form hT.os
      obtain ⟨Al, cl, rfl⟩ := own_form hT.ls
      have hfz := frozen_of_row _ bw 1 _ _ (hD0.out.below hb0).blk
      have hDw := Lib.hid (hD0.out.below hb0)
      have HT := Lib.hid hT
      have hj16 : j ≤ 16 := by omega
      clear hT
      go_wp2
      go_ret
      have hl := HT.out.ls
      rw [← hmj.out.2] at hl
      refine ⟨Ar, cr, by rw [hmj.out.1]; rfl, ?_, fun p hp => by have := own_ge HT.out.os p hp; omega, ⟨Al, cl, ?_, fun p hp => by have := own_ge HT.out.ls p hp; omega⟩, (Keep.of_below hb0).trans (keep_setCell _ _ _ _)⟩
      · obtain ⟨A1, c1, e1, hrd, _⟩ := own_rd HT.out.os
        injection e1 with e1 _ _
        rw [e1, hmj.out.1]
        exact hrd.keep (keep_setCell _ _ _ _) (fun b o e => by have := own_ge HT.out.os _ (e1.trans e); simp at this ⊢; omega)
      · have := hDw.out.swap hl (by omega) (by rw [hmj.out.2]; exact hj16)
        rw [hmj.out.2] at this
        exact this
set_option maxHeartbeats 4000000 in
set_option maxRecDepth 100000 in
theorem doc_drop_till (w : World) (bw N : Nat) (A : Option Addr) (ca : Nat) (ds : List Dh) (ta tb tc now : Int) (h : Doc w bw N A ca ds) (q : Dh → Bool) (hq' : ∀ d, q d = decide (d.u ≤ now)) :
    Calls Try.prog 36 #[.pointer (some ⟨bw, 0, none⟩), .bool true, .agg #[.int .i64 ta, .int .i64 tb, .int .i64 tc], .int .i64 now] w (DropDoc w bw N q ds) := by
  obtain ⟨B, hB⟩ : ∃ B, Hid (w.heap.size + 1 = B) := ⟨_, Lib.hid rfl⟩
  have hBw : w.heap.size < B := by rw [← hB.out]; omega
  obtain ⟨W, hW⟩ : ∃ W, Hid (((w.alloc (.cells #[.int .i64 ta, .int .i64 tb, .int .i64 tc] 55)).alloc (.cells #[] 3)).alloc (.cells #[] 81) = W) := ⟨_, Lib.hid rfl⟩
  have hal : Below w.heap.size w W := by rw [← hW.out]; exact below2 (below2 (below_alloc _ _) (below_alloc _ _)) (below_alloc _ _)
  have hBW : B ≤ W.heap.size := by rw [← hW.out, ← hB.out]; simp
  have hy : W.heap[w.heap.size]? = some (.cells #[.int .i64 ta, .int .i64 tb, .int .i64 tc] 55) := by
    rw [← hW.out, at_alloc, if_neg (by simp; omega), at_alloc, if_neg (by simp), at_alloc, if_pos rfl]
  have y0 : W.cell? ⟨w.heap.size, 0, none⟩ = some (.int .i64 ta) := by rw [cell_of_row _ _ _ _ _ _ hy]; rfl
  have y1 : W.cell? ⟨w.heap.size, 1, none⟩ = some (.int .i64 tb) := by rw [cell_of_row _ _ _ _ _ _ hy]; rfl
  have y2 : W.cell? ⟨w.heap.size, 2, none⟩ = some (.int .i64 tc) := by rw [cell_of_row _ _ _ _ _ _ hy]; rfl
  clear hy
  have hTw : Hid (Two W B (.slice (some ⟨w.heap.size + 1, 0, none⟩) 0 0) (.slice (some ⟨w.heap.size + 1 + 1, 0, none⟩) 0 0) 0 0 [] []) := Lib.hid (by
    rw [← hW.out, ← hB.out]
    have e1 : (w.alloc (.cells #[.int .i64 ta, .int .i64 tb, .int .i64 tc] 55)).heap.size = w.heap.size + 1 := by simp
    have e2 : ((w.alloc (.cells #[.int .i64 ta, .int .i64 tb, .int .i64 tc] 55)).alloc (.cells #[] 3)).heap.size = w.heap.size + 1 + 1 := by simp
    refine ⟨?_, ?_, fun k hk e => ?_⟩
    · have := World.ownsRow_lit (base := w.heap.size + 1) (e := 3) (size := 1) (w.alloc (.cells #[.int .i64 ta, .int .i64 tb, .int .i64 tc] 55)) #[] 0 (by simp) (by decide) rfl
      rw [e1] at this
      exact this.alloc _
    · have := World.ownsRow_lit (base := w.heap.size + 1) (e := 81) (size := 5) ((w.alloc (.cells #[.int .i64 ta, .int .i64 tb, .int .i64 tc] 55)).alloc (.cells #[] 3)) #[] 0 (by simp) (by decide) rfl
      rw [e2] at this
      exact this
    · simp [Value.ownBlock] at hk e; omega)
  have hD0 := Lib.hid h
  have hc1 := (h.below hal).c1
  have hbl := h.lt
  have hln := h.len
  clear h
  have hq := Lib.hid hq'
  clear hq'
  obtain ⟨n, hn⟩ : ∃ n, Hid (ds.length = n) := ⟨_, Lib.hid rfl⟩
  rw [hn.out] at hc1 hln
  have hm := tid_guard
  go_enter Try.func36, Try.ntmps36
  go_wp2_with fail
  rw [hW.out]
  go_loopw [9, 10, 11] (fun v u i wr => ∃ k m j : Nat, k ≤ n ∧ m ≤ k ∧ j ≤ k ∧ i = .int .i64 k ∧ Below B W wr ∧ Two wr B v u m j (outsV q (ds.take k)) (encD (leftD q (ds.take k))) ∧ Hid (((ds.take k).filter q).length = m ∧ (leftD q (ds.take k)).length = j)) (fun _ _ i _ => n - (intOf i).toNat)
  case atStart => exact ⟨0, 0, 0, by omega, by omega, by omega, rfl, Below.refl _ _, hTw.out, Lib.hid ⟨rfl, rfl⟩⟩
  case round =>
    obtain ⟨k, m, j, hk, hmk, hjk, rfl, hb, hT, hmj⟩ := hrel
    have hb0 : Below w.heap.size w wr := hal.trans (hb.mono (by omega))
    have hc2 := (hD0.out.below hb0).c1
    rw [hn.out] at hc2
    have hwr : B ≤ wr.heap.size := Nat.le_trans hBW hb.size
    by_cases hlt : k < n
    · have hkl : k < ds.length := by rw [hn.out]; exact hlt
      obtain ⟨d, hd⟩ : ∃ d, Hid (ds[k] = d) := ⟨_, Lib.hid rfl⟩
      obtain ⟨g, rfl, hg1, hg2, e0, e1, e2, e3, e4⟩ := (hD0.out.below hb0).row k hkl d hd.out
      have z0 := (World.cell?_of_block (w := W) (a := ⟨w.heap.size, 0, none⟩) (hb.block w.heap.size hBw)).trans y0
      have z1 := (World.cell?_of_block (w := W) (a := ⟨w.heap.size, 1, none⟩) (hb.block w.heap.size hBw)).trans y1
      have z2 := (World.cell?_of_block (w := W) (a := ⟨w.heap.size, 2, none⟩) (hb.block w.heap.size hBw)).trans y2
      have hf1 := Lib.hid (filter_take q ds k hkl)
      have hf2 : Hid (leftD q (ds.take (k + 1)) = leftD q (ds.take k) ++ if (!q ds[k]) then [ds[k]] else []) := Lib.hid (filter_take (fun d => !q d) ds k hkl)
      rw [hd.out] at hf1 hf2
      have hqd := hq.out d
      obtain ⟨r, hr⟩ : ∃ r, Hid (q d = r) := ⟨_, Lib.hid rfl⟩
      rw [hr.out] at hqd hf1 hf2
      have HQ := Lib.hid hqd.symm
      clear hqd
      clear hd
      obtain ⟨dc, da, db, dd, du⟩ := d
      dsimp only at e0 e1 e2 e3 e4 HQ
      have hq1 : decide (du ≤ now) = r := HQ.out
      have HT := Lib.hid hT
      clear hT
      cases r
      · go_wp2
        go_quiet (fail)
        obtain ⟨Wq, hWq⟩ : ∃ Wq, Hid (wr.drewN nq = Wq) := ⟨_, Lib.hid rfl⟩
        rw [hWq.out]
        have hbq : Below wr.heap.size wr Wq := by rw [← hWq.out]; exact below_drewN _ _
        have x0 := cell_below hbq e0
        have x1 := cell_below hbq e1
        have x2 := cell_below hbq e2
        have x3 := cell_below hbq e3
        have x4 := cell_below hbq e4
        have xc := cell_below hbq hc2
        have HTq := Lib.hid (HT.out.below hbq)
        have hBq : B ≤ (Wq.alloc (.cells #[.int .i64 dc, .int .i64 da, .int .i64 db, .int .i64 dd, .int .i64 du] 81)).heap.size := by have := hbq.size; simp; omega
        have HBq : Hid (Below B W Wq) := Lib.hid (hb.trans (hbq.mono (by omega)))
        clear e0 e1 e2 e3 e4 hc2 z0 z1 z2 hbq hq1 HT
        go_wp2_with (at_builtin; refine wpList_append_src _ rfl (.tmp 63) (.tmp 71) B 71 81 (.agg #[.int .i64 0, .int .i64 0, .int .i64 0, .int .i64 0, .int .i64 0]) 5 40 rfl (by kernel_rfl) (by kernel_rfl) rfl (by decide) (by decide) _ j _ rfl (HTq.out.ls.alloc _) (some ⟨Wq.heap.size, 0, none⟩) 1 1 rfl (fun h => by cases h) [.int .i64 dc, .int .i64 da, .int .i64 db, .int .i64 dd, .int .i64 du] rfl (lies_block (heap_alloc_new _ _)) (by simp [Value.oneCell']) (by omega) hBq ?_; intro v1 w6 ho6 hg6 hv6)
        have hT6 := Lib.hid (HTq.out.snd ho6 hg6 hv6)
        have hb6 := Lib.hid (HBq.out.trans (((Below.refl B Wq).alloc (Nat.le_trans hBW HBq.out.size) _).trans (below_of_grown hg6 hBq fun k hk => (HTq.out.ls.lt k hk).1)))
        have hk1 : Hid (outsV q (ds.take (k + 1)) = outsV q (ds.take k) ∧ encD (leftD q (ds.take (k + 1))) = encD (leftD q (ds.take k)) ++ [.int .i64 dc, .int .i64 da, .int .i64 db, .int .i64 dd, .int .i64 du]) := Lib.hid ⟨by simp [outsV, hf1.out], by rw [hf2.out, encD_app]; simp [encD, Dh.enc]⟩
        have hk2 : Hid (((ds.take (k + 1)).filter q).length = m ∧ (leftD q (ds.take (k + 1))).length = j + 1) := Lib.hid ⟨by rw [hf1.out]; simp [hmj.out.1], by rw [hf2.out]; simp [hmj.out.2]⟩
        clear ho6 hg6 hv6
        go_wp2
        go_roundw
        case rel => exact ⟨k + 1, m, j + 1, by omega, by omega, by omega, by go_num, hb6.out, by rw [hk1.out.1, hk1.out.2]; exact hT6.out, hk2.out⟩
        case measure => simp [intOf]; omega
      · go_wp2
        go_quiet (fail)
        obtain ⟨Wq, hWq⟩ : ∃ Wq, Hid (wr.drewN nq = Wq) := ⟨_, Lib.hid rfl⟩
        rw [hWq.out]
        have hbq : Below wr.heap.size wr Wq := by rw [← hWq.out]; exact below_drewN _ _
        have x0 := cell_below hbq e0
        have xc := cell_below hbq hc2
        have HTq := Lib.hid (HT.out.below hbq)
        have hBq : B ≤ (Wq.alloc (.cells #[.int .i64 dc] 3)).heap.size := by have := hbq.size; simp; omega
        have HBq : Hid (Below B W Wq) := Lib.hid (hb.trans (hbq.mono (by omega)))
        clear e0 e1 e2 e3 e4 hc2 z0 z1 z2 hbq hq1 HT
        go_wp2_with (at_builtin; refine wpList_append_src _ rfl (.tmp 52) (.tmp 61) B 35 3 (.int .i64 0) 1 8 rfl (by kernel_rfl) (by kernel_rfl) rfl (by decide) (by decide) _ m _ rfl (HTq.out.os.alloc _) (some ⟨Wq.heap.size, 0, none⟩) 1 1 rfl (fun h => by cases h) [.int .i64 dc] rfl (lies_block (heap_alloc_new _ _)) (by simp [Value.oneCell']) (by omega) hBq ?_; intro v1 w6 ho6 hg6 hv6)
        have hT6 := Lib.hid (HTq.out.fst ho6 hg6 hv6)
        have hb6 := Lib.hid (HBq.out.trans (((Below.refl B Wq).alloc (Nat.le_trans hBW HBq.out.size) _).trans (below_of_grown hg6 hBq fun k hk => (HTq.out.os.lt k hk).1)))
        have hk1 : Hid (outsV q (ds.take (k + 1)) = outsV q (ds.take k) ++ [.int .i64 dc] ∧ encD (leftD q (ds.take (k + 1))) = encD (leftD q (ds.take k))) := Lib.hid ⟨by simp [outsV, hf1.out], by rw [hf2.out]; simp⟩
        have hk2 : Hid (((ds.take (k + 1)).filter q).length = m + 1 ∧ (leftD q (ds.take (k + 1))).length = j) := Lib.hid ⟨by rw [hf1.out]; simp [hmj.out.1], by rw [hf2.out]; simp [hmj.out.2]⟩
        clear ho6 hg6 hv6
        go_wp2
        go_roundw
        case rel => exact ⟨k + 1, m + 1, j, by omega, by omega, by omega, by go_num, hb6.out, by rw [hk1.out.1, hk1.out.2]; exact hT6.out, hk2.out⟩
        case measure => simp [intOf]; omega
    · rw [List.take_of_length_le (by rw [hn.out]; omega)] at hT hmj
      obtain ⟨Ar, cr, rfl⟩ := own_form hT.os
      obtain ⟨Al, cl, rfl⟩ := own_form hT.ls
      have hfz := frozen_of_row _ bw 1 _ _ (hD0.out.below hb0).blk
      have hDw := Lib.hid (hD0.out.below hb0)
      have HT := Lib.hid hT
      have hj16 : j ≤ 16 := by omega
      clear hT
      go_wp2
      go_ret
      have hl := HT.out.ls
      rw [← hmj.out.2] at hl
      refine ⟨Ar, cr, by rw [hmj.out.1]; rfl, ?_, fun p hp => by have := own_ge HT.out.os p hp; omega, ⟨Al, cl, ?_, fun p hp => by have := own_ge HT.out.ls p hp; omega⟩, (Keep.of_below hb0).trans (keep_setCell _ _ _ _)⟩
      · obtain ⟨A1, c1, e1, hrd, _⟩ := own_rd HT.out.os
        injection e1 with e1 _ _
        rw [e1, hmj.out.1]
        exact hrd.keep (keep_setCell _ _ _ _) (fun b o e => by have := own_ge HT.out.os _ (e1.trans e); simp at this ⊢; omega)
      · have := hDw.out.swap hl (by omega) (by rw [hmj.out.2]; exact hj16)
        rw [hmj.out.2] at this
        exact this
end Go.Proofs.Ytljdiaokjocfpaa.Ls

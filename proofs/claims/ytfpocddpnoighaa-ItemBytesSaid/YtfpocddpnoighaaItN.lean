/- item: are lists alike? The reader: how many, nodes. -/
import Derived.Test.YtfpocddpnoighaaItM
namespace Go.Proofs.Ytfpocddpnoighaa.It
open Go.RowKit Go.Proofs.Ytfpocddpnoighaa.L Go.Proofs.Ytfpocddpnoighaa.O Go.Proofs.Ytfpocddpnoighaa.A Go.Proofs.Ytfpocddpnoighaa.R Go.Proofs.Ytfpocddpnoighaa.S Go.Proofs.Ytfpocddpnoighaa.T Go.Proofs.Ytfpocddpnoighaa.E Go.Proofs.Ytfpocddpnoighaa.Wr Go.Proofs.Ytfpocddpnoighaa.F
set_option linter.unusedVariables false
set_option linter.unusedSimpArgs false

theorem it_eq' (d : Nat) (c v l : Int) (wr : Bool) (n : Int) (w : World) : (Op.equalIn (d + 4) 86 (.agg #[.int .i64 c, .int .i64 v, .int .i64 l, .bool wr, .int .i64 n]) (.agg #[.int .i64 c, .int .i64 v, .int .i64 l, .bool wr, .int .i64 n])).run Try.prog w = .ok true w := by
  have hp : Try.prog.stoodInHeld 86 = false := by kernel_rfl
  have hf : Try.prog.underlying 86 = some (.struct (Try.prog.fieldsOf 86)) := by kernel_rfl
  rw [run_equalIn_agg w _ _ _ _ hf hp]
  clear hf hp
  go_simp
theorem it_eq (c v l : Int) (wr : Bool) (n : Int) (w : World) : (Op.equalIn 10000 86 (.agg #[.int .i64 c, .int .i64 v, .int .i64 l, .bool wr, .int .i64 n]) (.agg #[.int .i64 c, .int .i64 v, .int .i64 l, .bool wr, .int .i64 n])).run Try.prog w = .ok true w := it_eq' 9996 c v l wr n w
theorem it_guard : Try.prog.eqGuardType Try.prog.depth 86 = false := by kernel_rfl
set_option maxHeartbeats 4000000 in
set_option maxRecDepth 100000 in
theorem same_items (A A' : Option Addr) (n c c' : Nat) (l : List Im) (w : World) (h : Ims w A n l) (h' : Ims w A' n l) : Calls Try.prog 50 #[.slice A n c, .slice A' n c'] w fun e w' => e = .returned (.bool true) ∧ Below w.heap.size w w' := by
  have hn9 := h.rd.2.1
  have H := Lib.hid h
  have H' := Lib.hid h'
  have HN := Lib.hid h.len
  have hg := it_guard
  clear h h'
  go_enter Try.func50, Try.ntmps50
  go_wp2
  go_loopw [5] (fun i wr => ∃ k : Nat, k ≤ n ∧ i = .int .i64 k ∧ Below w.heap.size w wr) (fun i _ => n - (intOf i).toNat)
  case atStart => exact ⟨0, by omega, rfl, Below.refl _ _⟩
  case round =>
    obtain ⟨k, hk, rfl, hb⟩ := hrel
    by_cases hlt : k < n
    · have hkl : k < l.length := by have := HN.out; omega
      obtain ⟨x, hx⟩ : ∃ x, Hid (l[k] = x) := ⟨_, Lib.hid rfl⟩
      obtain ⟨ab, ao, hAe, c0, c1, c2, c3, c4⟩ := (H.out.below hb).at k hlt hkl x hx.out
      obtain ⟨ab2, ao2, hAe2, d0, d1, d2, d3, d4⟩ := (H'.out.below hb).at k hlt hkl x hx.out
      subst hAe
      subst hAe2
      obtain ⟨xc, xv, xl, xw, xn⟩ := x
      dsimp only at c0 c1 c2 c3 c4 d0 d1 d2 d3 d4
      have heq := it_eq xc xv xl xw xn
      have HB := Lib.hid hb
      clear hb
      go_wp2_with fail
      go_quiet (fail)
      go_wp2
      go_roundw
      case rel => exact ⟨k + 1, by omega, by go_num, below2 HB.out (below_drewN _ _)⟩
      case measure => simp [intOf]; omega
    · go_wp2
      go_ret
      exact ⟨rfl, hb⟩
set_option maxHeartbeats 4000000 in
set_option maxRecDepth 100000 in
theorem same_nodes (A A' : Option Addr) (n c c' : Nat) (xs : List Int) (w : World) (h : Rd w A n (xs.map (Value.int .i64))) (h' : Rd w A' n (xs.map (Value.int .i64))) : Calls Try.prog 51 #[.slice A n c, .slice A' n c'] w fun e w' => e = .returned (.bool true) ∧ Below w.heap.size w w' := by
  have hn9 := h.2.1
  have H := Lib.hid h
  have H' := Lib.hid h'
  have HN : Hid (xs.length = n) := Lib.hid (by simpa using h.len)
  clear h h'
  go_enter Try.func51, Try.ntmps51
  go_wp2
  go_loopw [5] (fun i wr => ∃ k : Nat, k ≤ n ∧ i = .int .i64 k ∧ Below w.heap.size w wr) (fun i _ => n - (intOf i).toNat)
  case atStart => exact ⟨0, by omega, rfl, Below.refl _ _⟩
  case round =>
    obtain ⟨k, hk, rfl, hb⟩ := hrel
    by_cases hlt : k < n
    · have hkl : k < xs.length := by have := HN.out; omega
      obtain ⟨x, hx⟩ : ∃ x, Hid (xs[k] = x) := ⟨_, Lib.hid rfl⟩
      obtain ⟨ab, ao, hAe, hc⟩ := (H.out.below hb).2.2 (by omega)
      obtain ⟨ab2, ao2, hAe2, hd⟩ := (H'.out.below hb).2.2 (by omega)
      subst hAe
      subst hAe2
      have c0 := rd_at hc hlt hkl hx.out
      have d0 := rd_at hd hlt hkl hx.out
      have HB := Lib.hid hb
      clear hb hc hd
      go_wp2_with fail
      go_quiet (fail)
      go_wp2
      go_roundw
      case rel => exact ⟨k + 1, by omega, by go_num, below2 HB.out (below_drewN _ _)⟩
      case measure => simp [intOf]; omega
    · go_wp2
      go_ret
      exact ⟨rfl, hb⟩

/-! ### the reader -/
def cnt (o : ByteArray × Bool) : Nat := numT 2 o.1 o.2
def nx2 (o : ByteArray × Bool) : ByteArray × Bool := (takeS 2 o.1 o.2, takeQ 2 o.1 o.2)
def manyV (o : ByteArray × Bool) : Nat := if cnt o ≤ 16 then cnt o else 0
def manyS (o : ByteArray × Bool) : ByteArray × Bool := if cnt o ≤ 16 then nx2 o else ((nx2 o).1, true)
theorem take_size (n : Nat) (s : ByteArray) (q : Bool) : (takeS n s q).size ≤ s.size := by
  unfold takeS
  split
  · exact Nat.le_refl _
  · rw [ByteArray.size_extract]; omega
theorem many_size (o : ByteArray × Bool) : (manyS o).1.size ≤ o.1.size := by
  unfold manyS nx2
  split <;> exact take_size _ _ _
theorem manyV_le (o : ByteArray × Bool) : manyV o ≤ 16 := by unfold manyV; split <;> omega
/-- an item.Reader and its wire.Reader. -/
structure Rst (bi b : Nat) (W : World) (o : ByteArray × Bool) : Prop where
  hbi : Ird W bi b
  rd : Rdr W b o.1 o.2
  ne : bi ≠ b
theorem Rst.step {bi b : Nat} {W W' : World} {o o' : ByteArray × Bool} (h : Rst bi b W o) (hr : Rdr W' b o'.1 o'.2) (hk : Keep [b] W W') : Rst bi b W' o' := ⟨keep_block hk h.hbi (by simpa using h.ne), hr, h.ne⟩
theorem Rst.below {bi b : Nat} {W W' : World} {o : ByteArray × Bool} (h : Rst bi b W o) (hb : Below W.heap.size W W') : Rst bi b W' o := ⟨keep_block (.of_below (S := []) hb) h.hbi (by simp), h.rd.below hb, h.ne⟩
theorem Rst.keep {S : List Nat} {bi b : Nat} {W W' : World} {o : ByteArray × Bool} (h : Rst bi b W o) (hk : Keep S W W') (h1 : bi ∉ S) (h2 : b ∉ S) : Rst bi b W' o := ⟨keep_block hk h.hbi h1, h.rd.keep hk h2, h.ne⟩
theorem Rst.grown {bi b : Nat} {W W' : World} {o : ByteArray × Bool} {r : Option Nat} (h : Rst bi b W o) (hg : W.grownBy W' r) (h1 : ∀ j, r = some j → j ≠ b) (h2 : ∀ j, r = some j → j ≠ bi) : Rst bi b W' o :=
  h.keep (keep_grown hg r.toList (fun j hj _ => by simp [hj])) (fun hm => by cases r <;> simp at hm; exact h2 _ rfl hm.symm) (fun hm => by cases r <;> simp at hm; exact h1 _ rfl hm.symm)
theorem Rst.cell {bi b : Nat} {W : World} {o : ByteArray × Bool} (h : Rst bi b W o) : W.cell? ⟨bi, 0, none⟩ = some (.pointer (some ⟨b, 0, none⟩)) := by rw [cell_of_row _ _ _ _ _ _ h.hbi]; rfl
set_option maxHeartbeats 1000000 in
theorem many_any (bi b : Nat) (o : ByteArray × Bool) (w : World) (h : Rst bi b w o) (hs : o.1.size ≤ 140737488355328) : Calls Try.prog 94 #[.pointer (some ⟨bi, 0, none⟩)] w fun e w' => e = .returned (.int .i64 (manyV o : Nat)) ∧ Rst bi b w' (manyS o) ∧ Keep [b] w w' := by
  have HC := Lib.hid (count_read b o.1 o.2 w h.rd (by omega))
  have c0 := h.cell
  obtain ⟨m, hm⟩ : ∃ m, Hid (cnt o = m) := ⟨_, Lib.hid rfl⟩
  obtain ⟨o1, ho1⟩ : ∃ o1, Hid (nx2 o = o1) := ⟨_, Lib.hid rfl⟩
  rw [show numT 2 o.1 o.2 = m from hm.out, show takeS 2 o.1 o.2 = o1.1 from by rw [← ho1.out]; rfl, show takeQ 2 o.1 o.2 = o1.2 from by rw [← ho1.out]; rfl] at HC
  have H := Lib.hid h
  clear h
  by_cases hle : m ≤ 16
  · have hV : Hid (manyV o = m) := Lib.hid (by unfold manyV; rw [hm.out, if_pos hle])
    have hSS : Hid (manyS o = o1) := Lib.hid (by unfold manyS; rw [hm.out, if_pos hle, ho1.out])
    go_enter Try.func94, Try.ntmps94
    go_wp2_with fail
    refine HC.out.mono ?_
    rintro e w1 ⟨rfl, hr1, hk1⟩
    have HR := Lib.hid (H.out.step hr1 hk1)
    have HK := Lib.hid hk1
    clear c0 hr1 hk1
    go_wp2
    go_ret
    exact ⟨by rw [hV.out]; rfl, by rw [hSS.out]; exact HR.out, HK.out⟩
  · have hV : Hid (manyV o = 0) := Lib.hid (by unfold manyV; rw [hm.out, if_neg hle])
    have hSS : Hid (manyS o = (o1.1, true)) := Lib.hid (by unfold manyS; rw [hm.out, if_neg hle, ho1.out])
    go_enter Try.func94, Try.ntmps94
    go_wp2_with fail
    refine HC.out.mono ?_
    rintro e w1 ⟨rfl, hr1, hk1⟩
    have HR := Lib.hid (H.out.step hr1 hk1)
    have HK := Lib.hid hk1
    clear c0 hr1 hk1
    have c0 := HR.out.cell
    go_wp2_with fail
    refine (break_any b o1.1 o1.2 w1 HR.out.rd).mono ?_
    rintro e w2 ⟨rfl, hr2, hk2⟩
    have HR2 := Lib.hid (HR.out.step (o' := (o1.1, true)) hr2 hk2)
    have HK2 := Lib.hid (HK.out.trans hk2)
    clear c0 hr2 hk2
    go_wp2
    go_ret
    exact ⟨by rw [hV.out]; rfl, by rw [hSS.out]; exact HR2.out, HK2.out⟩
def nodesV : Nat → ByteArray × Bool → List Int
  | 0, _ => []
  | n + 1, o => nv o :: nodesV n (nxt o)
def nxts : Nat → ByteArray × Bool → ByteArray × Bool
  | 0, o => o
  | n + 1, o => nxts n (nxt o)
theorem nodes_snoc : ∀ (k : Nat) (o : ByteArray × Bool), nodesV (k + 1) o = nodesV k o ++ [nv (nxts k o)]
  | 0, o => rfl
  | k + 1, o => by
    have h1 : nodesV (k + 1 + 1) o = nv o :: nodesV (k + 1) (nxt o) := rfl
    rw [h1, nodes_snoc k (nxt o)]; rfl
theorem nxts_snoc : ∀ (k : Nat) (o : ByteArray × Bool), nxts (k + 1) o = nxt (nxts k o)
  | 0, o => rfl
  | k + 1, o => by
    have h1 : nxts (k + 1 + 1) o = nxts (k + 1) (nxt o) := rfl
    rw [h1, nxts_snoc k (nxt o)]; rfl
theorem nxts_size : ∀ (k : Nat) (o : ByteArray × Bool), (nxts k o).1.size ≤ o.1.size
  | 0, o => Nat.le_refl _
  | k + 1, o => Nat.le_trans (nxts_size k (nxt o)) (nxt_size o)
theorem len_nodesV : ∀ (k : Nat) (o : ByteArray × Bool), (nodesV k o).length = k
  | 0, o => rfl
  | k + 1, o => by simp [nodesV, len_nodesV k (nxt o)]
set_option maxHeartbeats 4000000 in
set_option maxRecDepth 100000 in
theorem nodes_read (bi b : Nat) (o : ByteArray × Bool) (w : World) (h : Rst bi b w o) (hs : o.1.size ≤ 140737488355328) : Calls Try.prog 49 #[.pointer (some ⟨bi, 0, none⟩)] w fun e w' => ∃ v, e = .returned v ∧ w'.ownsRow w.heap.size 3 1 v (manyV o) ((nodesV (manyV o) (manyS o)).map (Value.int .i64)) ∧ Rst bi b w' (nxts (manyV o) (manyS o)) ∧ Keep [b] w w' := by
  have HC := Lib.hid (many_any bi b o w h hs)
  have hV := manyV_le o
  have hz : (manyS o).1.size ≤ 140737488355328 := Nat.le_trans (many_size o) hs
  obtain ⟨m, hm⟩ : ∃ m, Hid (manyV o = m) := ⟨_, Lib.hid rfl⟩
  obtain ⟨o1, ho1⟩ : ∃ o1, Hid (manyS o = o1) := ⟨_, Lib.hid rfl⟩
  have hbl : Hid (bi < w.heap.size ∧ b < w.heap.size) := Lib.hid ⟨(Array.getElem?_eq_some_iff.1 h.hbi).1, h.rd.lt⟩
  rw [hm.out] at HC hV ⊢
  rw [ho1.out] at HC hz ⊢
  have HZ := Lib.hid hz
  clear h hs hz
  go_enter Try.func49, Try.ntmps49
  go_wp2_with fail
  refine HC.out.mono ?_
  rintro e w1 ⟨rfl, hr1, hk1⟩
  have HR1 := Lib.hid hr1
  have HK1 := Lib.hid hk1
  clear hr1 hk1 HC
  go_wp2
  go_loopw [3, 6] (fun v i wr => ∃ k : Nat, k ≤ m ∧ i = .int .i64 k ∧ wr.ownsRow w.heap.size 3 1 v k ((nodesV k o1).map (Value.int .i64)) ∧ Rst bi b wr (nxts k o1) ∧ Keep [b] w wr) (fun _ i _ => m - (intOf i).toNat)
  case atStart => exact ⟨0, by omega, rfl, World.ownsRow_nil _ _ _ _, HR1.out, HK1.out⟩
  case round =>
    obtain ⟨k, hk, rfl, ho, hr, hkp⟩ := hrel
    by_cases hlt : k < m
    · obtain ⟨ok, hok⟩ : ∃ x, Hid (nxts k o1 = x) := ⟨_, Lib.hid rfl⟩
      obtain ⟨xs, hxs⟩ : ∃ x, Hid ((nodesV k o1).map (Value.int .i64) = x) := ⟨_, Lib.hid rfl⟩
      obtain ⟨x, hx⟩ : ∃ x, Hid (nv ok = x) := ⟨_, Lib.hid rfl⟩
      obtain ⟨o2, ho2⟩ : ∃ x, Hid (nxt ok = x) := ⟨_, Lib.hid rfl⟩
      have hzk : ok.1.size ≤ 9223372036854775807 := by
        have h1 := nxts_size k o1
        rw [hok.out] at h1
        have := HZ.out
        omega
      have hx1 : Hid ((nodesV (k + 1) o1).map (Value.int .i64) = xs ++ [.int .i64 x]) := Lib.hid (by rw [nodes_snoc, List.map_append, hxs.out, hok.out, ← hx.out]; rfl)
      have hx2 : Hid (nxts (k + 1) o1 = o2) := Lib.hid (by rw [nxts_snoc, hok.out, ho2.out])
      rw [hxs.out] at ho
      rw [hok.out] at hr
      have HN := Lib.hid (num_read b ok.1 ok.2 wr hr.rd hzk)
      rw [show wrap64 (numT 8 ok.1 ok.2 : Nat) = x from hx.out, show takeS 8 ok.1 ok.2 = o2.1 from by rw [← ho2.out]; rfl, show takeQ 8 ok.1 ok.2 = o2.2 from by rw [← ho2.out]; rfl] at HN
      have c0 := hr.cell
      have HO := Lib.hid ho
      have HR := Lib.hid hr
      have HK := Lib.hid hkp
      have hnb : Hid (∀ j, u3.ownBlock = some j → j ≠ b ∧ j ≠ bi) := Lib.hid (fun j hj => by have := (own_lt ho j hj).1; have := hbl.out; exact ⟨by omega, by omega⟩)
      clear ho hr hkp hzk
      go_wp2_with fail
      refine HN.out.mono ?_
      rintro e w2 ⟨rfl, hr2, hk2⟩
      have HR2 := Lib.hid (HR.out.step hr2 hk2)
      have HO2 := Lib.hid (own_keep HO.out hk2 (fun j hj => by simpa using (hnb.out j hj).1))
      have HK2 := Lib.hid (HK.out.trans hk2)
      have hbs : w.heap.size ≤ (w2.alloc (.cells #[.int .i64 x] 3)).heap.size := by have := HK2.out.size; simp; omega
      clear c0 hr2 hk2
      go_wp2_with (at_builtin; refine wpList_append_src _ rfl (.tmp 8) (.tmp 14) w.heap.size 55 3 (.int .i64 0) 1 8 rfl (by kernel_rfl) (by kernel_rfl) rfl (by decide) (by decide) _ k _ rfl (HO2.out.alloc _) (some ⟨w2.heap.size, 0, none⟩) 1 1 rfl (fun h => by cases h) [.int .i64 x] rfl (lies_block (heap_alloc_new _ _)) (by simp [Value.oneCell']) (by omega) hbs ?_; intro v1 w3 hw1 hg1 hv1)
      have HR3 := Lib.hid ((HR2.out.below (below_alloc _ _)).grown hg1 (fun j hj => (hnb.out j hj).1) (fun j hj => (hnb.out j hj).2))
      have HK3 : Hid (Keep [b] w w3) := Lib.hid (by
        have hk := HK2.out.trans (.of_below (below_alloc w2 (.cells #[.int .i64 x] 3)))
        refine ⟨hg1.os.trans hk.os, hg1.tape.trans hk.tape, hg1.output.trans hk.output, Nat.le_trans hk.size hg1.size, fun j hj hjn => ?_⟩
        exact (hg1.block j (Nat.lt_of_lt_of_le hj hk.size) (fun e => by have := (own_lt HO2.out j (show u3.ownBlock = some j from e.symm)).1; omega)).trans (hk.block j hj hjn))
      have HW := Lib.hid hw1
      clear hw1 hg1 hv1 hbs
      go_roundw
      case rel => exact ⟨k + 1, by omega, by go_num, by rw [hx1.out]; exact HW.out, by rw [hx2.out]; exact HR3.out, HK3.out⟩
      case measure => simp [intOf]; omega
    · obtain rfl : m = k := by omega
      go_wp2
      go_ret
      exact ⟨_, rfl, ho, hr, hkp⟩
end Go.Proofs.Ytfpocddpnoighaa.It

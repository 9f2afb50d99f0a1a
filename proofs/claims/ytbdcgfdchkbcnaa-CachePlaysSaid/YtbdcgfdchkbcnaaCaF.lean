/- cache: Put, Get. -/
import Derived.Test.YtbdcgfdchkbcnaaCaE
namespace Go.Proofs.Ytbdcgfdchkbcnaa.Ca
open Go.RowKit Go.Proofs.Ytbdcgfdchkbcnaa.L Go.Proofs.Ytbdcgfdchkbcnaa.R Go.Proofs.Ytbdcgfdchkbcnaa.A Go.Proofs.Ytbdcgfdchkbcnaa.S Go.Proofs.Ytbdcgfdchkbcnaa.T Go.Proofs.Ytbdcgfdchkbcnaa.C Go.Proofs.Ytbdcgfdchkbcnaa.G Go.Proofs.Ytbdcgfdchkbcnaa.E Go.Proofs.Ytbdcgfdchkbcnaa.F
set_option linter.unusedVariables false
set_option linter.unusedSimpArgs false

theorem puts_nil (v : Value) (w : World) : Calls Try.prog 49 #[.pointer none, v] w fun e w' => e = .returned (.int .i64 0) ∧ Below w.heap.size w w' := by
  go_enter Try.func49, Try.ntmps49
  go_wp2
  go_ret
  exact ⟨rfl, Below.refl _ _⟩
/-- a slice of entries that a call of the cache leaves alone. -/
def Off (w : World) (b : Nat) (v : Value) (A : Option Addr) (n : Nat) : Prop := 0 < n → ∀ o, A = some o → o.block < w.heap.size ∧ o.block ≠ b ∧ v.ownBlock ≠ some o.block
theorem rd_chg {w w' : World} {b : Nat} {v v' : Value} {A : Option Addr} {n sz : Nat} {es : List (List Value)} (h : RdE w A n sz es) (ho : Off w b v A n) (hc : Chg b v w v' w') : RdE w' A n sz es :=
  h.keep hc.keep fun hn o hA hm => by
    obtain ⟨_, h2, h3⟩ := ho hn o hA
    rcases List.mem_cons.1 hm with e | hm
    · exact h2 e
    · exact h3 (by simpa using hm)
set_option maxHeartbeats 2000000 in
theorem puts_any (b room : Nat) (v : Value) (L : List Ent) (A : Option Addr) (n c : Nat) (es : List Ent) (w : World) (h : Ca CT ET w b room v L) (hL : L.length ≤ room) (h0 : 0 < room) (h1 : room ≤ 100000) (hr : RdE w A n 4 (es.map encE)) (ho : Off w b v A n) :
    Calls Try.prog 49 #[.pointer (some ⟨b, 0, none⟩), .slice A n c] w fun e w' => e = .returned (.int .i64 ((putsL room es L).2 : Int)) ∧ Goes b room v (putsL room es L).1 w w' := by
  have hn9 := hr.2.1
  have hel : es.length = n := by have := hr.1; simpa using this
  have HR := Lib.hid hr
  have HO := Lib.hid ho
  have HH := Lib.hid h
  have HLL := Lib.hid hL
  have HEL := Lib.hid hel
  obtain ⟨cF, hcF⟩ : ∃ cF, Hid ((putsL room es L).2 = cF) := ⟨_, Lib.hid rfl⟩
  obtain ⟨LF, hLF⟩ : ∃ LF, Hid ((putsL room es L).1 = LF) := ⟨_, Lib.hid rfl⟩
  rw [hcF.out, hLF.out]
  clear h hr ho hL hel
  go_enter Try.func49, Try.ntmps49
  go_wp2
  go_loopw [5, 12] (fun u i wr => ∃ (k m : Nat) (Lk : List Ent) (vk : Value), k ≤ n ∧ m ≤ k ∧ i = .int .i64 k ∧ u = .int .i64 m ∧ Ca CT ET wr b room vk Lk ∧ Lk.length ≤ room ∧ Chg b v w vk wr ∧ Hid ((putsL room (es.drop k) Lk).1 = LF ∧ m + (putsL room (es.drop k) Lk).2 = cF)) (fun _ i _ => n - (intOf i).toNat)
  case atStart => exact ⟨0, 0, L, v, by omega, by omega, rfl, rfl, HH.out, HLL.out, Chg.refl _ _ _, Lib.hid ⟨hLF.out, by rw [Nat.zero_add]; exact hcF.out⟩⟩
  case round =>
    obtain ⟨k, m, Lk, vk, hk, hmk, rfl, rfl, hC, hLk, hch, hF⟩ := hrel
    by_cases hlt : k < n
    · have hkl : k < es.length := by have := HEL.out; omega
      obtain ⟨z, hz⟩ : ∃ z : Ent, Hid (es[k] = z) := ⟨_, Lib.hid rfl⟩
      obtain ⟨ab, ao, hA, c0, c1, c2, c3⟩ := ent_at (rd_chg HR.out HO.out hch) k hlt hkl z hz.out
      subst hA
      obtain ⟨W, hW⟩ : ∃ W, Hid (wr.alloc (.cells #[.int .i64 z.1, .int .i64 z.2.1, .int .i64 z.2.2.1, .int .i64 z.2.2.2] 77) = W) := ⟨_, Lib.hid rfl⟩
      have hbW : Below wr.heap.size wr W := by rw [← hW.out]; exact below_alloc _ _
      have HP := Lib.hid (put_any b room vk Lk z W (hC.below hbW) (by omega) ⟨h0, h1⟩)
      have hdr : es.drop k = z :: es.drop (k + 1) := by rw [← hz.out]; exact List.drop_eq_getElem_cons hkl
      have hF' := hF.out
      rw [hdr] at hF'
      obtain ⟨q, hq⟩ : ∃ q, Hid ((putL room z Lk).2 = q) := ⟨_, Lib.hid rfl⟩
      obtain ⟨L', hL'⟩ : ∃ L', Hid ((putL room z Lk).1 = L') := ⟨_, Lib.hid rfl⟩
      have hlen := Lib.hid (len_put (e := z) h0 hLk)
      rw [hL'.out] at hlen
      simp only [putsL, hq.out, hL'.out] at hF'
      rw [hq.out, hL'.out] at HP
      have HF := Lib.hid hF'
      have HCH := Lib.hid hch
      have HBW := Lib.hid hbW
      clear hF hF' hdr hC hch hbW hz hLk
      obtain ⟨z1, z2, z3, z4⟩ := z
      dsimp only [aggE] at HP c0 c1 c2 c3 hW
      cases q
      · go_wp2_with fail
        rw [hW.out]
        refine HP.out.mono ?_
        rintro e w1 ⟨rfl, v1, hC1, hch1⟩
        have HC1 := Lib.hid hC1
        clear hC1
        go_wp2
        go_roundw
        case rel => exact ⟨k + 1, m, L', v1, by omega, by omega, by go_num, rfl, HC1.out, hlen.out, (HCH.out.below HBW.out).trans hch1, Lib.hid (by have := HF.out; simpa using this)⟩
        case measure => simp [intOf]; omega
      · go_wp2_with fail
        rw [hW.out]
        refine HP.out.mono ?_
        rintro e w1 ⟨rfl, v1, hC1, hch1⟩
        have HC1 := Lib.hid hC1
        clear hC1
        go_wp2
        go_roundw
        case rel => exact ⟨k + 1, m + 1, L', v1, by omega, by omega, by go_num, by go_num, HC1.out, hlen.out, (HCH.out.below HBW.out).trans hch1, Lib.hid (by have := HF.out; refine ⟨this.1, ?_⟩; rw [← this.2]; simp; omega)⟩
        case measure => simp [intOf]; omega
    · obtain rfl : k = n := by omega
      have hF' := hF.out
      rw [List.drop_eq_nil_of_le (by have := HEL.out; omega)] at hF'
      simp only [putsL, Nat.add_zero] at hF'
      obtain ⟨rfl, rfl⟩ := hF'
      go_wp2
      go_ret
      exact ⟨rfl, vk, hC, hch⟩
set_option maxHeartbeats 2000000 in
theorem get_any (b room : Nat) (v : Value) (L : List Ent) (c : Int) (w : World) (h : Ca CT ET w b room v L) (hsm : L.length ≤ 100000) :
    Calls Try.prog 53 #[.pointer (some ⟨b, 0, none⟩), .int .i64 c] w fun e w' => e = .returned (.tuple #[aggE (peekL c L).1, .bool (peekL c L).2]) ∧ Goes b room v (getL c L) w w' := by
  obtain ⟨W, hW⟩ : ∃ W, Hid (w.alloc (.cells #[.int .i64 0, .int .i64 0, .int .i64 0, .int .i64 0] 77) = W) := ⟨_, Lib.hid rfl⟩
  have hb0 : Below w.heap.size w W := by rw [← hW.out]; exact below_alloc _ _
  have hW0 : W.heap[w.heap.size]? = some (.cells #[.int .i64 0, .int .i64 0, .int .i64 0, .int .i64 0] 77 (0, 0)) := by rw [← hW.out]; exact heap_alloc_new _ _
  have H0 := h.below hb0
  have HB := Lib.hid hb0
  have HP := Lib.hid (peek_any b room v L c W H0 hsm)
  have HW0 := Lib.hid hW0
  have HH := Lib.hid H0
  have hlt := h.lt
  have HNE := Lib.hid h.ne
  clear hb0 hW0 H0 h
  obtain ⟨⟨⟨z1, z2, z3, z4⟩, t⟩, hp⟩ : ∃ r, peekL c L = r := ⟨_, rfl⟩
  rw [hp] at HP ⊢
  dsimp only [aggE] at HP ⊢
  cases t with
  | false =>
    have hg : getL c L = L := by
      unfold getL
      cases hl : look c L with
      | none => rfl
      | some i => simp [peekL, hl] at hp
    rw [hg]
    clear hg hp
    go_enter Try.func53, Try.ntmps53
    go_wp2_with fail
    rw [hW.out]
    refine HP.out.mono ?_
    rintro e w1 ⟨rfl, hb1⟩
    have HB1 := Lib.hid hb1
    have hw1 : w.heap.size < w1.heap.size := Nat.lt_of_lt_of_le (Array.getElem?_eq_some_iff.1 HW0.out).1 hb1.size
    obtain ⟨W2, hW2⟩ : ∃ W2, Hid (w1.alloc (.cells #[.int .i64 z1, .int .i64 z2, .int .i64 z3, .int .i64 z4] 77) = W2) := ⟨_, Lib.hid rfl⟩
    have hb2 : Below w1.heap.size w1 W2 := by rw [← hW2.out]; exact below_alloc _ _
    have g2 : W2.heap[w1.heap.size]? = some (.cells #[.int .i64 z1, .int .i64 z2, .int .i64 z3, .int .i64 z4] 77 (0, 0)) := by rw [← hW2.out]; exact heap_alloc_new _ _
    have k0 : W2.cell? ⟨w1.heap.size, 0, none⟩ = some (.int .i64 z1) := by rw [cell_of_row W2 _ 0 _ _ _ g2]; rfl
    have k1 : W2.cell? ⟨w1.heap.size, 1, none⟩ = some (.int .i64 z2) := by rw [cell_of_row W2 _ 1 _ _ _ g2]; rfl
    have k2 : W2.cell? ⟨w1.heap.size, 2, none⟩ = some (.int .i64 z3) := by rw [cell_of_row W2 _ 2 _ _ _ g2]; rfl
    have k3 : W2.cell? ⟨w1.heap.size, 3, none⟩ = some (.int .i64 z4) := by rw [cell_of_row W2 _ 3 _ _ _ g2]; rfl
    have h1 := Lib.hid (((below2 hb1 hb2).block w.heap.size (Array.getElem?_eq_some_iff.1 HW0.out).1).trans HW0.out)
    have HB2 := Lib.hid hb2
    clear hb1 hb2 g2
    go_wp2_with (first | (refine wpList_store_blk rfl 77 (.tmp 4) (.tmp 20) rfl w.heap.size 0 rfl 77 _ (.agg #[.int .i64 z1, .int .i64 z2, .int .i64 z3, .int .i64 z4]) rfl h1.out (by kernel_rfl) (by simp [Value.cells]) (by simp [Value.cells, Value.oneCell']) _ rfl ?_; intro w5 hg5 hu5) | rw [hW2.out])
    have r0 : w5.cell? ⟨w.heap.size, 0, none⟩ = some (.int .i64 z1) := by rw [cell_of_row w5 _ 0 _ _ _ hg5]; rfl
    have r1 : w5.cell? ⟨w.heap.size, 1, none⟩ = some (.int .i64 z2) := by rw [cell_of_row w5 _ 1 _ _ _ hg5]; rfl
    have r2 : w5.cell? ⟨w.heap.size, 2, none⟩ = some (.int .i64 z3) := by rw [cell_of_row w5 _ 2 _ _ _ hg5]; rfl
    have r3 : w5.cell? ⟨w.heap.size, 3, none⟩ = some (.int .i64 z4) := by rw [cell_of_row w5 _ 3 _ _ _ hg5]; rfl
    refine bodyPost_ret (v := .tuple #[.agg #[.int .i64 z1, .int .i64 z2, .int .i64 z3, .int .i64 z4], .bool false]) (by simp [results, Try.results53, go_sem, r0, r1, r2, r3]) rfl ⟨rfl, ?_⟩
    have hkk : Keep [w.heap.size] W2 w5 := keep_upd hu5
    have hC5 : Ca CT ET w5 b room v L := ((HH.out.below HB1.out).below HB2.out).keep hkk (by simp; omega) (fun k hk => by have := (HNE.out k hk).2; simp; omega)
    exact ⟨v, hC5, Chg.of_below ((below2 HB.out (below2 HB1.out HB2.out)).trans (hu5.below (Nat.le_refl _)))⟩
  | true =>
    obtain ⟨i, hl⟩ : ∃ i, look c L = some i := by
      cases hl : look c L with
      | none => simp [peekL, hl] at hp
      | some i => exact ⟨i, rfl⟩
    obtain ⟨hi, -, -⟩ := look_some hl
    have hi' : L[i] = (z1, z2, z3, z4) := by
      simp only [peekL, hl, getD_at hi, Prod.mk.injEq, and_true] at hp
      exact hp
    have hg : getL c L = L.eraseIdx i ++ [L[i]] := by simp only [getL, hl, getD_at hi]
    have hf : fnd c L = i := by simp [fnd, hl]
    have HI := Lib.hid hi
    obtain ⟨L2, hL2⟩ : ∃ L2 : List Ent, Hid (getL c L = L2) := ⟨_, Lib.hid rfl⟩
    rw [hL2.out]
    have HG2 := Lib.hid hg
    clear hg hp hl hi'
    go_enter Try.func53, Try.ntmps53
    go_wp2_with fail
    rw [hW.out]
    refine HP.out.mono ?_
    rintro e w1 ⟨rfl, hb1⟩
    have HB1 := Lib.hid hb1
    have hw1 : w.heap.size < w1.heap.size := Nat.lt_of_lt_of_le (Array.getElem?_eq_some_iff.1 HW0.out).1 hb1.size
    obtain ⟨W2, hW2⟩ : ∃ W2, Hid (w1.alloc (.cells #[.int .i64 z1, .int .i64 z2, .int .i64 z3, .int .i64 z4] 77) = W2) := ⟨_, Lib.hid rfl⟩
    have hb2 : Below w1.heap.size w1 W2 := by rw [← hW2.out]; exact below_alloc _ _
    have g2 : W2.heap[w1.heap.size]? = some (.cells #[.int .i64 z1, .int .i64 z2, .int .i64 z3, .int .i64 z4] 77 (0, 0)) := by rw [← hW2.out]; exact heap_alloc_new _ _
    have k0 : W2.cell? ⟨w1.heap.size, 0, none⟩ = some (.int .i64 z1) := by rw [cell_of_row W2 _ 0 _ _ _ g2]; rfl
    have k1 : W2.cell? ⟨w1.heap.size, 1, none⟩ = some (.int .i64 z2) := by rw [cell_of_row W2 _ 1 _ _ _ g2]; rfl
    have k2 : W2.cell? ⟨w1.heap.size, 2, none⟩ = some (.int .i64 z3) := by rw [cell_of_row W2 _ 2 _ _ _ g2]; rfl
    have k3 : W2.cell? ⟨w1.heap.size, 3, none⟩ = some (.int .i64 z4) := by rw [cell_of_row W2 _ 3 _ _ _ g2]; rfl
    have h1 := Lib.hid (((below2 hb1 hb2).block w.heap.size (Array.getElem?_eq_some_iff.1 HW0.out).1).trans HW0.out)
    have HB2 := Lib.hid hb2
    have HC2 := Lib.hid ((HH.out.below HB1.out).below hb2)
    have HF := Lib.hid (find_any b room v L c W2 HC2.out)
    rw [hf] at HF
    have HK := Lib.hid (And.intro k0 (And.intro k1 (And.intro k2 k3)))
    have HG := Lib.hid h1.out
    clear hb1 hb2 g2 k0 k1 k2 k3
    go_wp2_with (rw [hW2.out])
    refine HF.out.mono ?_
    rintro e w3 ⟨rfl, hb3⟩
    have HU := Lib.hid (use_any b room v L i w3 (HC2.out.below hb3) HI.out (by omega))
    rw [← HG2.out, hL2.out] at HU
    have HB3 := Lib.hid hb3
    clear hb3
    go_wp2_with fail
    refine HU.out.mono ?_
    rintro e w4 ⟨rfl, v4, hC4, hch4⟩
    have hs2 : w1.heap.size < W2.heap.size := (Array.getElem?_eq_some_iff.1 (show W2.heap[w1.heap.size]? = some (.cells #[.int .i64 z1, .int .i64 z2, .int .i64 z3, .int .i64 z4] 77 (0, 0)) by rw [← hW2.out]; exact heap_alloc_new _ _)).1
    have hk4 : Keep (b :: v.ownBlock.toList) W2 w4 := (Keep.of_below HB3.out).trans hch4.keep
    have hn1 : w1.heap.size ∉ (b :: v.ownBlock.toList : List Nat) := fun hm => by
      rcases List.mem_cons.1 hm with e | hm
      · omega
      · have := (HNE.out w1.heap.size (by simpa using hm)).2; omega
    have hn0 : w.heap.size ∉ (b :: v.ownBlock.toList : List Nat) := fun hm => by
      rcases List.mem_cons.1 hm with e | hm
      · omega
      · have := (HNE.out w.heap.size (by simpa using hm)).2; omega
    obtain ⟨k0, k1, k2, k3⟩ := HK.out
    replace k0 := keep_cell hk4 k0 hn1
    replace k1 := keep_cell hk4 k1 hn1
    replace k2 := keep_cell hk4 k2 hn1
    replace k3 := keep_cell hk4 k3 hn1
    have h4 := Lib.hid (keep_block hk4 HG.out hn0)
    have HCC := Lib.hid (And.intro hC4 hch4)
    clear hC4 hch4 hk4
    go_wp2_with (refine wpList_store_blk rfl 77 (.tmp 4) (.tmp 20) rfl w.heap.size 0 rfl 77 _ (.agg #[.int .i64 z1, .int .i64 z2, .int .i64 z3, .int .i64 z4]) rfl h4.out (by kernel_rfl) (by simp [Value.cells]) (by simp [Value.cells, Value.oneCell']) _ rfl ?_; intro w5 hg5 hu5)
    have r0 : w5.cell? ⟨w.heap.size, 0, none⟩ = some (.int .i64 z1) := by rw [cell_of_row w5 _ 0 _ _ _ hg5]; rfl
    have r1 : w5.cell? ⟨w.heap.size, 1, none⟩ = some (.int .i64 z2) := by rw [cell_of_row w5 _ 1 _ _ _ hg5]; rfl
    have r2 : w5.cell? ⟨w.heap.size, 2, none⟩ = some (.int .i64 z3) := by rw [cell_of_row w5 _ 2 _ _ _ hg5]; rfl
    have r3 : w5.cell? ⟨w.heap.size, 3, none⟩ = some (.int .i64 z4) := by rw [cell_of_row w5 _ 3 _ _ _ hg5]; rfl
    refine bodyPost_ret (v := .tuple #[.agg #[.int .i64 z1, .int .i64 z2, .int .i64 z3, .int .i64 z4], .bool true]) (by simp [results, Try.results53, go_sem, r0, r1, r2, r3]) rfl ⟨rfl, ?_⟩
    obtain ⟨hC4, hch4⟩ := HCC.out
    have hkk : Keep [w.heap.size] w4 w5 := keep_upd hu5
    have hr4 : ∀ k, v4.ownBlock = some k → k ≠ w.heap.size := fun k hk => by
      rcases hch4.row with e | e
      · rw [e] at hk; have := (HNE.out k hk).2; omega
      · have := e k hk
        have := HB3.out.size
        omega
    have hC5 : Ca CT ET w5 b room v4 L2 := hC4.keep hkk (by simp; omega) (fun k hk => by have := hr4 k hk; simpa using this)
    have hc4 : Chg b v w v4 w4 := (Chg.of_below (below2 (below2 HB.out (below2 HB1.out HB2.out)) HB3.out)).trans hch4
    refine ⟨v4, hC5, keep_of_new hc4.keep hkk (by simp), hc4.row⟩
end Go.Proofs.Ytbdcgfdchkbcnaa.Ca

/- net: the document's Take. -/
import Derived.Test.YtbdcgfdchkbcnaaNeT
namespace Go.Proofs.Ytbdcgfdchkbcnaa.Ne
open Go.RowKit Go.Proofs.Ytbdcgfdchkbcnaa.L Go.Proofs.Ytbdcgfdchkbcnaa.O Go.Proofs.Ytbdcgfdchkbcnaa.R Go.Proofs.Ytbdcgfdchkbcnaa.A Go.Proofs.Ytbdcgfdchkbcnaa.S Go.Proofs.Ytbdcgfdchkbcnaa.T Go.Proofs.Ytbdcgfdchkbcnaa.C Go.Proofs.Ytbdcgfdchkbcnaa.G Go.Proofs.Ytbdcgfdchkbcnaa.E
set_option linter.unusedVariables false
set_option linter.unusedSimpArgs false

theorem dk_cells {W : World} {g : Nat} {a b : Int} {s : ByteArray} {q : Bool} (h : W.heap[g]? = some (.cells #[.int .i64 a, .int .i64 b, .string s, .bool q] DPT (0, 0))) : W.cell? ⟨g, 0, none⟩ = some (.int .i64 a) ∧ W.cell? ⟨g, 1, none⟩ = some (.int .i64 b) ∧ W.cell? ⟨g, 2, none⟩ = some (.string s) ∧ W.cell? ⟨g, 3, none⟩ = some (.bool q) := by
  refine ⟨?_, ?_, ?_, ?_⟩ <;> (rw [cell_of_row W g _ _ _ _ h]; rfl)
theorem Upd.keep1 {g : Nat} {w w' : World} (h : Go.Proofs.Ytbdcgfdchkbcnaa.L.Upd g w w') : Keep [g] w w' := ⟨h.os, h.tape, h.output, by rw [h.size]; exact Nat.le_refl _, fun k _ hn => h.block k (by simpa using hn)⟩
set_option maxHeartbeats 2000000 in
theorem dtake_no (d nodes : Nat) (vL vC : Value) (Ls : List Pkt) (cs : List (Int × Int)) (i : Int) (w : World) (h : Dd w d nodes vL Ls vC cs) (hi : ¬ (0 ≤ i ∧ i < Ls.length)) :
    Calls Try.prog 28 #[.pointer (some ⟨d, 0, none⟩), .int .i64 i] w fun e w' => e = .returned (.tuple #[.agg #[.int .i64 0, .int .i64 0, .string ⟨#[]⟩, .bool false], .int .i64 8]) ∧ Below w.heap.size w w' := by
  obtain ⟨W, hW⟩ : ∃ W, Hid (w.alloc (.cells #[.int .i64 0, .int .i64 0, .string ⟨#[]⟩, .bool false] DPT) = W) := ⟨_, Lib.hid rfl⟩
  have hb0 : Below w.heap.size w W := by rw [← hW.out]; exact below_alloc _ _
  have h1 : Hid (W.heap[w.heap.size]? = some (.cells #[.int .i64 0, .int .i64 0, .string ⟨#[]⟩, .bool false] DPT (0, 0))) := Lib.hid (by rw [← hW.out]; exact heap_alloc_new _ _)
  have HB := Lib.hid hb0
  obtain ⟨A, c, hv, -, -, -⟩ := dd_whole h
  have hc := h.cell.2.1
  rw [hv] at hc
  have hc1 := cell_below hb0 hc
  obtain ⟨k, hk⟩ : ∃ k, Ls.length = k := ⟨_, rfl⟩
  rw [hk] at hc1 hi
  clear hb0 h hv hk hc
  by_cases h0 : i < 0
  · have hd0 : decide (i < 0) = true := by simpa using h0
    go_enter Try.func28, Try.ntmps28
    go_wp2_with (first | (refine wpList_store_blk rfl DPT (.tmp 4) (.tmp 18) rfl w.heap.size 0 rfl DPT _ (.agg #[.int .i64 0, .int .i64 0, .string ⟨#[]⟩, .bool false]) rfl (by rw [hW.out]; exact h1.out) (by kernel_rfl) (by decide) (by simp [Value.cells, Value.oneCell']) _ rfl ?_; intro w5 hg5 hu5))
    have k0 : w5.cell? ⟨w.heap.size, 0, none⟩ = some (.int .i64 0) := by rw [cell_of_row w5 _ 0 _ _ _ hg5]; rfl
    have k1 : w5.cell? ⟨w.heap.size, 1, none⟩ = some (.int .i64 0) := by rw [cell_of_row w5 _ 1 _ _ _ hg5]; rfl
    have k2 : w5.cell? ⟨w.heap.size, 2, none⟩ = some (.string ⟨#[]⟩) := by rw [cell_of_row w5 _ 2 _ _ _ hg5]; rfl
    have k3 : w5.cell? ⟨w.heap.size, 3, none⟩ = some (.bool false) := by rw [cell_of_row w5 _ 3 _ _ _ hg5]; rfl
    rw [hW.out] at hu5
    refine bodyPost_ret (v := .tuple #[.agg #[.int .i64 0, .int .i64 0, .string ⟨#[]⟩, .bool false], .int .i64 8]) (by simp [results, Try.results28, go_sem, k0, k1, k2, k3]) rfl ⟨rfl, ?_⟩
    exact HB.out.trans (hu5.below (Nat.le_refl _))
  · have hd0 : decide (i < 0) = false := by simpa using h0
    have hd : decide ((k : Int) ≤ i) = true := by simp; omega
    go_enter Try.func28, Try.ntmps28
    go_wp2_with (first | (rw [hW.out]) | (refine wpList_store_blk rfl DPT (.tmp 4) (.tmp 18) rfl w.heap.size 0 rfl DPT _ (.agg #[.int .i64 0, .int .i64 0, .string ⟨#[]⟩, .bool false]) rfl h1.out (by kernel_rfl) (by decide) (by simp [Value.cells, Value.oneCell']) _ rfl ?_; intro w5 hg5 hu5))
    have k0 : w5.cell? ⟨w.heap.size, 0, none⟩ = some (.int .i64 0) := by rw [cell_of_row w5 _ 0 _ _ _ hg5]; rfl
    have k1 : w5.cell? ⟨w.heap.size, 1, none⟩ = some (.int .i64 0) := by rw [cell_of_row w5 _ 1 _ _ _ hg5]; rfl
    have k2 : w5.cell? ⟨w.heap.size, 2, none⟩ = some (.string ⟨#[]⟩) := by rw [cell_of_row w5 _ 2 _ _ _ hg5]; rfl
    have k3 : w5.cell? ⟨w.heap.size, 3, none⟩ = some (.bool false) := by rw [cell_of_row w5 _ 3 _ _ _ hg5]; rfl
    refine bodyPost_ret (v := .tuple #[.agg #[.int .i64 0, .int .i64 0, .string ⟨#[]⟩, .bool false], .int .i64 8]) (by simp [results, Try.results28, go_sem, k0, k1, k2, k3]) rfl ⟨rfl, ?_⟩
    exact HB.out.trans (hu5.below (Nat.le_refl _))
set_option maxHeartbeats 8000000 in
set_option maxRecDepth 100000 in
theorem dtake_ok (d nodes : Nat) (VV vC : Value) (Ls : List Pkt) (cs : List (Int × Int)) (ix : Nat) (w : World) (h : Dd w d nodes VV Ls vC cs) (hi : ix < Ls.length) (hf : Ls.length ≤ 256) :
    Calls Try.prog 28 #[.pointer (some ⟨d, 0, none⟩), .int .i64 ix] w fun e w' => e = .returned (.tuple #[.agg #[.int .i64 Ls[ix].a, .int .i64 Ls[ix].b, .string Ls[ix].s, .bool Ls[ix].q], .int .i64 0]) ∧ GD d nodes VV vC (Ls.eraseIdx ix) cs w w' := by
  obtain ⟨⟨px, py, pS, pq⟩, hp⟩ : ∃ p : Pkt, Hid (Ls[ix] = p) := ⟨_, Lib.hid rfl⟩
  rw [hp.out]
  dsimp only
  -- the two new blocks
  obtain ⟨rb, hrb⟩ : ∃ rb, Hid (w.heap.size = rb) := ⟨_, Lib.hid rfl⟩
  obtain ⟨W0, hW0⟩ : ∃ W0, Hid (w.alloc (.cells #[.int .i64 0, .int .i64 0, .string ⟨#[]⟩, .bool false] DPT) = W0) := ⟨_, Lib.hid rfl⟩
  have hb0 : Below w.heap.size w W0 := by rw [← hW0.out]; exact below_alloc _ _
  obtain ⟨xb, hxb⟩ : ∃ xb, Hid (W0.heap.size = xb) := ⟨_, Lib.hid rfl⟩
  obtain ⟨w1, hw1⟩ : ∃ w1, Hid (W0.alloc (.cells #[.int .i64 px, .int .i64 py, .string pS, .bool pq] DPT) = w1) := ⟨_, Lib.hid rfl⟩
  have hb1 : Below W0.heap.size W0 w1 := by rw [← hw1.out]; exact below_alloc _ _
  have hb01 : Below w.heap.size w w1 := below2 hb0 hb1
  have h0 := h.below hb0
  have h1 := h.below hb01
  have hs0 : rb < xb := by rw [← hrb.out, ← hxb.out, ← hW0.out, World.size_alloc]; exact Nat.lt_succ_self _
  have hs1 : xb < w1.heap.size := by rw [← hxb.out, ← hw1.out, World.size_alloc]; exact Nat.lt_succ_self _
  have hdl := h.lt
  have HRB : Hid (rb < w1.heap.size ∧ rb ≠ d ∧ w1.drew.heap[rb]? = some (.cells #[.int .i64 0, .int .i64 0, .string ⟨#[]⟩, .bool false] DPT (0, 0))) := Lib.hid ⟨by omega, by have := hrb.out; omega, by
    show w1.heap[rb]? = _
    have h2 : W0.heap[rb]? = some (.cells #[.int .i64 0, .int .i64 0, .string ⟨#[]⟩, .bool false] DPT (0, 0)) := by rw [← hW0.out, ← hrb.out]; exact heap_alloc_new _ _
    exact (hb1.block rb (by rw [hxb.out]; exact hs0)).trans h2⟩
  have HXB : Hid (xb < w1.heap.size ∧ xb ≠ d ∧ w1.drew.heap[xb]? = some (.cells #[.int .i64 px, .int .i64 py, .string pS, .bool pq] DPT (0, 0))) := Lib.hid ⟨hs1, by have := hrb.out; omega, by
    show w1.heap[xb]? = _
    rw [← hw1.out, ← hxb.out]
    exact heap_alloc_new _ _⟩
  obtain ⟨g, cL, AJ, hv, hle, hAJ, hLA, hLB⟩ := dd_parts h1 ix hi
  obtain ⟨AL, cL', hv', -, -, hRD⟩ := dd_whole h0
  obtain ⟨ab, ao, hA, e0, e1, e2, e3⟩ := pkt_at (hRD W0 (Below.refl _ _)) ix hi hi _ hp.out
  have hcell0 := h0.cell.2.1
  rw [hv] at hcell0
  rw [hv] at hv'
  injection hv' with hv1 hv2 hv3
  rw [hA] at hv1
  injection hv1 with hv1
  injection hv1 with hv4 hv5
  subst hv4
  subst hv5
  dsimp only at e0 e1 e2 e3
  rw [Nat.zero_add] at e0 e1 e2 e3
  obtain ⟨nL, hn⟩ : ∃ nL, Ls.length = nL := ⟨_, rfl⟩
  obtain ⟨jx, hj⟩ : ∃ jx, ix + 1 = jx := ⟨_, rfl⟩
  obtain ⟨FA, hFAe⟩ : ∃ FA, (Ls.take ix).flatMap encP = FA := ⟨_, rfl⟩
  obtain ⟨FB, hFBe⟩ : ∃ FB, (Ls.drop jx).flatMap encP = FB := ⟨_, rfl⟩
  have hFA : Hid (FA.length = ix * 4) := Lib.hid (by rw [← hFAe, flat_len encP_len, List.length_take]; congr 1; omega)
  have hFB : Hid (FB.length = (nL - jx) * 4) := Lib.hid (by rw [← hFBe, flat_len encP_len, List.length_drop, hn])
  have hOA : Hid (∀ u ∈ FA, u.oneCell' = true) := Lib.hid (by rw [← hFAe]; exact one_pkt)
  have hOB : Hid (∀ u ∈ FB, u.oneCell' = true) := Lib.hid (by rw [← hFBe]; exact one_pkt)
  obtain ⟨L1, hL1⟩ : ∃ L1, Ls.eraseIdx ix = L1 := ⟨_, rfl⟩
  have HE1 : Hid (ix + (nL - jx) = L1.length ∧ FA ++ FB = L1.flatMap encP) := Lib.hid (by
    refine ⟨by rw [← hL1, List.length_eraseIdx, hn, if_pos (by omega)]; omega, ?_⟩
    rw [← hFAe, ← hFBe, ← List.flatMap_append, ← hL1, List.eraseIdx_eq_take_drop_succ, hj])
  rw [hj] at hAJ hLB
  rw [hn] at hi hf hle hcell0 hv
  rw [hFAe] at hLA
  rw [hFBe] at hLB
  rw [hL1]
  have hwr : Hid (IntKind.i64.wrap ((ix : Int) + 1) = (jx : Int)) := Lib.hid (by rw [IntKind.wrap_i64]; omega)
  have hAJ := Lib.hid hAJ
  have hLA := Lib.hid hLA
  have hLB := Lib.hid hLB
  have HCL := Lib.hid h1.cell.2.1
  have HD := Lib.hid h1
  have hVV := Lib.hid hv
  have HIX := Lib.hid hi
  have hn9 : Hid (nL ≤ 256) := Lib.hid (by omega)
  have HFIN : Hid (∀ W w5, (∃ v', Dd W d nodes v' L1 vC cs ∧ ∀ k, v'.ownBlock = some k → w1.heap.size ≤ k) → Lo w1.heap.size d w1.drew W → Go.Proofs.Ytbdcgfdchkbcnaa.L.Upd rb W w5 → GD d nodes VV vC L1 cs w w5) := Lib.hid fun W w5 hx hl hu => by
    obtain ⟨v', g1, g2⟩ := hx
    have hku := Upd.keep1 hu
    have h0 : Keep [d] w1.drew W := hl.keep (Nat.le_refl _)
    have hkw : Keep [d] w W := ((Keep.of_below hb01).trans (.of_below (below_drewN 1 w1))).trans h0
    have hr := hrb.out
    refine ⟨v', vC, ⟨keep_block hku g1.blk (by simp; omega), own_keep g1.own hku (fun k hk => by have := g2 k hk; simp; omega), own_keep g1.cut hku (fun k hk => by have := (own_lt h.cut k hk).2; simp; omega)⟩, ?_, .inr fun k hk => by have := g2 k hk; omega, .inl rfl⟩
    exact ⟨hu.os.trans hkw.os, hu.tape.trans hkw.tape, hu.output.trans hkw.output, by rw [hu.size]; exact hkw.size, fun k hk hn => (hu.block k (by omega)).trans (hkw.block k hk hn)⟩
  have hd : decide ((nL : Int) ≤ (ix : Int)) = false := by simp; omega
  have hic : ix ≤ cL := by omega
  have hjc : jx ≤ cL := by omega
  have hjn : jx ≤ nL := by omega
  clear hb0 hb1 hb01 h0 h1 h hs0 hs1 hdl hv hRD hA hn hFAe hFBe hL1 hv2 hv3 hj hle
  go_enter Try.func28, Try.ntmps28
  go_wp2_with (first | (rw [hW0.out, hrb.out]) | (rw [hw1.out, hxb.out]))
  clear hcell0 e0 e1 e2 e3 hd
  refine wp_region_last (fun W => Below w1.heap.size w1 W) (Lo w1.heap.size d) (fun k u v => ((k = 16 ∨ k = 19) → (Lo w1.heap.size d) u v) ∧ (¬ (k = 16 ∨ k = 19) → (fun u v => Below u.heap.size u v ∧ Below w1.heap.size u v) u v)) (fun a i => match i with
      | 0 => (fun v _ => v = .pointer (some ⟨d, 0, none⟩))
      | 1 => (fun v W => ∃ A0, v = .slice A0 0 0 ∧ W.ownsRow w1.heap.size DPT 4 v 0 [])
      | 2 => (fun v _ => v = .pointer (some ⟨d, 0, none⟩))
      | 3 => (fun v _ => v = .pointer (some ⟨d, 0, none⟩))
      | 4 => (fun v _ => v = .pointer (some ⟨d, 1, none⟩))
      | 5 => (fun v _ => v = .slice (some ⟨g, 0, none⟩) nL cL)
      | 6 => (fun v _ => v = .int .i64 (ix : Int))
      | 7 => (fun v _ => v = .slice (some ⟨g, 0, none⟩) ix cL)
      | 8 => (fun v W => W.ownsRow w1.heap.size DPT 4 v (ix) (FA))
      | 9 => (fun v _ => v = .pointer (some ⟨d, 0, none⟩))
      | 10 => (fun v _ => v = .pointer (some ⟨d, 0, none⟩))
      | 11 => (fun v _ => v = .pointer (some ⟨d, 1, none⟩))
      | 12 => (fun v _ => v = .slice (some ⟨g, 0, none⟩) nL cL)
      | 13 => (fun v _ => v = .int .i64 (ix : Int))
      | 14 => (fun v _ => v = .int .i64 (jx : Int))
      | 15 => (fun v _ => v = .slice (some AJ) (nL - jx) (cL - jx))
      | 16 => (fun v W => W.ownsRow w1.heap.size DPT 4 v (ix + (nL - jx)) (FA ++ FB))
      | 17 => (fun v _ => v = .pointer (some ⟨d, 0, none⟩))
      | 18 => (fun v _ => v = .pointer (some ⟨d, 1, none⟩))
      | 19 => (fun v W => ∃ v', Dd W d nodes v' L1 vC cs ∧ ∀ k, v'.ownBlock = some k → w1.heap.size ≤ k)
      | _ => (fun _ _ => True)) #[0, 0, 0, 4, 12, 28, 0, 124, 254, 0, 512, 1536, 3584, 0, 8192, 32256, 65534, 131071, 262143, 524287] #[0, 0, 0, 4, 8, 16, 0, 96, 130, 0, 512, 1024, 2048, 0, 8192, 20480, 33024, 1, 131072, 327680] 982781 19 (by kernel_rfl) 20 rfl (by kernel_rfl) (fun m hm => by subst hm; kernel_rfl) (by kernel_rfl) (fun w => Lo.refl _ _ _) (fun u v w h1 h2 => h1.trans h2) ?_ ?_ (below_drewN 1 w1) ?_ ?_
  · intro k u v hk hr
    by_cases hs : k = 16 ∨ k = 19
    · have h := hr.1 hs; exact h
    · have h := hr.2 hs; exact Lo.of h.2
  · intro i hi hiz
    rcases (by omega : i = 0 ∨ i = 1 ∨ i = 2 ∨ i = 3 ∨ i = 4 ∨ i = 5 ∨ i = 6 ∨ i = 7 ∨ i = 8 ∨ i = 9 ∨ i = 10 ∨ i = 11 ∨ i = 12 ∨ i = 13 ∨ i = 14 ∨ i = 15 ∨ i = 16 ∨ i = 17 ∨ i = 18 ∨ i = 19) with rfl | rfl | rfl | rfl | rfl | rfl | rfl | rfl | rfl | rfl | rfl | rfl | rfl | rfl | rfl | rfl | rfl | rfl | rfl | rfl
    · intro k hk q hq hqt v w w' h hr
      by_cases hs : k = 16 ∨ k = 19
      · have hr0 := hr.1 hs
        rcases hs with rfl | rfl
        · exact (fun (h : _) (hr : _) => by exact h) h hr0
        · exact (fun (h : _) (hr : _) => by exact h) h hr0
      · have hr := hr.2 hs
        exact h
    · intro k hk q hq hqt v w w' h hr
      by_cases hs : k = 16 ∨ k = 19
      · have hr0 := hr.1 hs
        rcases hs with rfl | rfl
        · exact absurd (hq.trans hqt) (ne_true_of_eq_false (by kernel_rfl))
        · exact absurd (hq.trans hqt) (ne_true_of_eq_false (by kernel_rfl))
      · have hr := hr.2 hs
        obtain ⟨A0, h1, h2⟩ := h; exact ⟨A0, h1, own_kept h2 hr.1⟩
    · intro k hk q hq hqt v w w' h hr
      by_cases hs : k = 16 ∨ k = 19
      · have hr0 := hr.1 hs
        rcases hs with rfl | rfl
        · exact (fun (h : _) (hr : _) => by exact h) h hr0
        · exact (fun (h : _) (hr : _) => by exact h) h hr0
      · have hr := hr.2 hs
        exact h
    · intro k hk q hq hqt v w w' h hr
      by_cases hs : k = 16 ∨ k = 19
      · have hr0 := hr.1 hs
        rcases hs with rfl | rfl
        · exact (fun (h : _) (hr : _) => by exact h) h hr0
        · exact (fun (h : _) (hr : _) => by exact h) h hr0
      · have hr := hr.2 hs
        exact h
    · intro k hk q hq hqt v w w' h hr
      by_cases hs : k = 16 ∨ k = 19
      · have hr0 := hr.1 hs
        rcases hs with rfl | rfl
        · exact (fun (h : _) (hr : _) => by exact h) h hr0
        · exact (fun (h : _) (hr : _) => by exact h) h hr0
      · have hr := hr.2 hs
        exact h
    · intro k hk q hq hqt v w w' h hr
      by_cases hs : k = 16 ∨ k = 19
      · have hr0 := hr.1 hs
        rcases hs with rfl | rfl
        · exact (fun (h : _) (hr : _) => by exact h) h hr0
        · exact (fun (h : _) (hr : _) => by exact h) h hr0
      · have hr := hr.2 hs
        exact h
    · intro k hk q hq hqt v w w' h hr
      by_cases hs : k = 16 ∨ k = 19
      · have hr0 := hr.1 hs
        rcases hs with rfl | rfl
        · exact (fun (h : _) (hr : _) => by exact h) h hr0
        · exact (fun (h : _) (hr : _) => by exact h) h hr0
      · have hr := hr.2 hs
        exact h
    · intro k hk q hq hqt v w w' h hr
      by_cases hs : k = 16 ∨ k = 19
      · have hr0 := hr.1 hs
        rcases hs with rfl | rfl
        · exact (fun (h : _) (hr : _) => by exact h) h hr0
        · exact (fun (h : _) (hr : _) => by exact h) h hr0
      · have hr := hr.2 hs
        exact h
    · intro k hk q hq hqt v w w' h hr
      by_cases hs : k = 16 ∨ k = 19
      · have hr0 := hr.1 hs
        rcases hs with rfl | rfl
        · exact absurd (hq.trans hqt) (ne_true_of_eq_false (by kernel_rfl))
        · exact absurd (hq.trans hqt) (ne_true_of_eq_false (by kernel_rfl))
      · have hr := hr.2 hs
        exact own_kept h hr.1
    · intro k hk q hq hqt v w w' h hr
      by_cases hs : k = 16 ∨ k = 19
      · have hr0 := hr.1 hs
        rcases hs with rfl | rfl
        · exact (fun (h : _) (hr : _) => by exact h) h hr0
        · exact (fun (h : _) (hr : _) => by exact h) h hr0
      · have hr := hr.2 hs
        exact h
    · intro k hk q hq hqt v w w' h hr
      by_cases hs : k = 16 ∨ k = 19
      · have hr0 := hr.1 hs
        rcases hs with rfl | rfl
        · exact (fun (h : _) (hr : _) => by exact h) h hr0
        · exact (fun (h : _) (hr : _) => by exact h) h hr0
      · have hr := hr.2 hs
        exact h
    · intro k hk q hq hqt v w w' h hr
      by_cases hs : k = 16 ∨ k = 19
      · have hr0 := hr.1 hs
        rcases hs with rfl | rfl
        · exact (fun (h : _) (hr : _) => by exact h) h hr0
        · exact (fun (h : _) (hr : _) => by exact h) h hr0
      · have hr := hr.2 hs
        exact h
    · intro k hk q hq hqt v w w' h hr
      by_cases hs : k = 16 ∨ k = 19
      · have hr0 := hr.1 hs
        rcases hs with rfl | rfl
        · exact (fun (h : _) (hr : _) => by exact h) h hr0
        · exact (fun (h : _) (hr : _) => by exact h) h hr0
      · have hr := hr.2 hs
        exact h
    · intro k hk q hq hqt v w w' h hr
      by_cases hs : k = 16 ∨ k = 19
      · have hr0 := hr.1 hs
        rcases hs with rfl | rfl
        · exact (fun (h : _) (hr : _) => by exact h) h hr0
        · exact (fun (h : _) (hr : _) => by exact h) h hr0
      · have hr := hr.2 hs
        exact h
    · intro k hk q hq hqt v w w' h hr
      by_cases hs : k = 16 ∨ k = 19
      · have hr0 := hr.1 hs
        rcases hs with rfl | rfl
        · exact (fun (h : _) (hr : _) => by exact h) h hr0
        · exact (fun (h : _) (hr : _) => by exact h) h hr0
      · have hr := hr.2 hs
        exact h
    · intro k hk q hq hqt v w w' h hr
      by_cases hs : k = 16 ∨ k = 19
      · have hr0 := hr.1 hs
        rcases hs with rfl | rfl
        · exact (fun (h : _) (hr : _) => by exact h) h hr0
        · exact (fun (h : _) (hr : _) => by exact h) h hr0
      · have hr := hr.2 hs
        exact h
    · intro k hk q hq hqt v w w' h hr
      by_cases hs : k = 16 ∨ k = 19
      · have hr0 := hr.1 hs
        rcases hs with rfl | rfl
        · exact absurd (hq.trans hqt) (ne_true_of_eq_false (by kernel_rfl))
        · exact absurd (hq.trans hqt) (ne_true_of_eq_false (by kernel_rfl))
      · have hr := hr.2 hs
        exact own_kept h hr.1
    · intro k hk q hq hqt v w w' h hr
      by_cases hs : k = 16 ∨ k = 19
      · have hr0 := hr.1 hs
        rcases hs with rfl | rfl
        · exact absurd (hq.trans hqt) (ne_true_of_eq_false (by kernel_rfl))
        · exact (fun (h : _) (hr : _) => by exact h) h hr0
      · have hr := hr.2 hs
        exact h
    · intro k hk q hq hqt v w w' h hr
      by_cases hs : k = 16 ∨ k = 19
      · have hr0 := hr.1 hs
        rcases hs with rfl | rfl
        · exact absurd (hq.trans hqt) (ne_true_of_eq_false (by kernel_rfl))
        · exact (fun (h : _) (hr : _) => by exact h) h hr0
      · have hr := hr.2 hs
        exact h
    · exact absurd rfl hiz
  · intro i hi
    rcases (by omega : i = 0 ∨ i = 1 ∨ i = 2 ∨ i = 3 ∨ i = 4 ∨ i = 5 ∨ i = 6 ∨ i = 7 ∨ i = 8 ∨ i = 9 ∨ i = 10 ∨ i = 11 ∨ i = 12 ∨ i = 13 ∨ i = 14 ∨ i = 15 ∨ i = 16 ∨ i = 17 ∨ i = 18 ∨ i = 19) with rfl | rfl | rfl | rfl | rfl | rfl | rfl | rfl | rfl | rfl | rfl | rfl | rfl | rfl | rfl | rfl | rfl | rfl | rfl | rfl
    · -- 0: Op.move (Operand.tmp 0)
      intro l hl vs W hS hR hp
      obtain rfl : l = [] := hl.symm.trans (by kernel_rfl)
      clear hp hl
      refine opgoal (_) (some 26) rfl rfl fun K hK => ?_
      refine Runs.mk ?_
      simp only [putAll]
      go_simp
      refine hK _ _ ?_ (fun _ => hS) ⟨fun h => absurd h (by decide), fun _ => ((fun w => ⟨Below.refl _ _, Below.refl _ _⟩) W)⟩ _ rfl rfl
      first | rfl | go_simp | simp
    · -- 1: Op.buildSlice 47 0 #[]
      intro l hl vs W hS hR hp
      obtain rfl : l = [] := hl.symm.trans (by kernel_rfl)
      clear hp hl
      refine opgoal (_) (some 27) rfl rfl fun K hK => ?_
      refine Runs.mk ?_
      simp only [putAll]
      go_simp
      refine hK _ _ ⟨_, rfl, ?_⟩ (fun _ => below2 hS (below_alloc _ _)) ⟨fun h => absurd h (by decide), fun _ => ⟨below_alloc _ _, (below_alloc _ _).mono hS.size⟩⟩ _ rfl rfl
      exact World.ownsRow_lit (size := 4) W #[] 0 hS.size (by decide) rfl
    · -- 2: Op.move (Operand.tmp 0)
      intro l hl vs W hS hR hp
      obtain rfl : l = [] := hl.symm.trans (by kernel_rfl)
      clear hp hl
      refine opgoal (_) (some 28) rfl rfl fun K hK => ?_
      refine Runs.mk ?_
      simp only [putAll]
      go_simp
      refine hK _ _ ?_ (fun _ => hS) ⟨fun h => absurd h (by decide), fun _ => ((fun w => ⟨Below.refl _ _, Below.refl _ _⟩) W)⟩ _ rfl rfl
      first | rfl | go_simp | simp
    · -- 3: Op.nilCheck (Operand.tmp 28)
      intro l hl vs W hS hR hp
      obtain rfl : l = [(2, 28)] := hl.symm.trans (by kernel_rfl)
      have p2 : vs 2 = _ := hp 2 (by decide) (by decide)
      clear hp hl
      refine opgoal (_) (some 29) rfl rfl fun K hK => ?_
      refine Runs.mk ?_
      simp only [putAll]
      go_simp
      refine hK _ _ ?_ (fun _ => hS) ⟨fun h => absurd h (by decide), fun _ => ((fun w => ⟨Below.refl _ _, Below.refl _ _⟩) W)⟩ _ rfl rfl
      first | rfl | go_simp | simp
    · -- 4: Op.fieldAddr 56 (Operand.tmp 29) 1
      intro l hl vs W hS hR hp
      obtain rfl : l = [(2, 28), (3, 29)] := hl.symm.trans (by kernel_rfl)
      have p3 : vs 3 = _ := hp 3 (by decide) (by decide)
      clear hp hl
      refine opgoal (_) (some 30) rfl rfl fun K hK => ?_
      refine Runs.mk ?_
      simp only [putAll]
      go_simp
      refine hK _ _ ?_ (fun _ => hS) ⟨fun h => absurd h (by decide), fun _ => ((fun w => ⟨Below.refl _ _, Below.refl _ _⟩) W)⟩ _ rfl rfl
      first | rfl | go_simp | simp
    · -- 5: Op.load 47 (Operand.tmp 30)
      intro l hl vs W hS hR hp
      obtain rfl : l = [(2, 28), (3, 29), (4, 30)] := hl.symm.trans (by kernel_rfl)
      have p4 : vs 4 = _ := hp 4 (by decide) (by decide)
      clear hp hl
      refine opgoal (_) (some 31) rfl rfl fun K hK => ?_
      have hb1 : W.cell? ⟨d, 1, none⟩ = some VV := cell_below hS HCL.out
      rw [hVV.out] at hb1
      refine Runs.mk ?_
      simp only [putAll]
      go_simp
      refine hK _ _ ?_ (fun _ => hS) ⟨fun h => absurd h (by decide), fun _ => ((fun w => ⟨Below.refl _ _, Below.refl _ _⟩) W)⟩ _ rfl rfl
      first | rfl | go_simp | simp
    · -- 6: Op.move (Operand.tmp 1)
      intro l hl vs W hS hR hp
      obtain rfl : l = [] := hl.symm.trans (by kernel_rfl)
      clear hp hl
      refine opgoal (_) (some 32) rfl rfl fun K hK => ?_
      refine Runs.mk ?_
      simp only [putAll]
      go_simp
      refine hK _ _ ?_ (fun _ => hS) ⟨fun h => absurd h (by decide), fun _ => ((fun w => ⟨Below.refl _ _, Below.refl _ _⟩) W)⟩ _ rfl rfl
      first | rfl | go_simp | simp
    · -- 7: Op.slice 47 (Operand.tmp 31) none (some (Operand.tmp 32)) none
      intro l hl vs W hS hR hp
      obtain rfl : l = [(2, 28), (3, 29), (4, 30), (5, 31), (6, 32)] := hl.symm.trans (by kernel_rfl)
      have p5 : vs 5 = _ := hp 5 (by decide) (by decide)
      have p6 : vs 6 = _ := hp 6 (by decide) (by decide)
      clear hp hl
      refine opgoal (_) (some 33) rfl rfl fun K hK => ?_
      have hix := HIX.out
      refine Runs.mk ?_
      simp only [putAll]
      go_simp
      refine hK _ _ ?_ (fun _ => hS) ⟨fun h => absurd h (by decide), fun _ => ((fun w => ⟨Below.refl _ _, Below.refl _ _⟩) W)⟩ _ rfl rfl
      first | rfl | go_simp | simp
    · -- 8: Op.call { callee := Callee.builtin Builtin.append, args := #[Operand.tmp 27, Operand.tmp 33], argTypes := #[47, 47] }
      intro l hl vs W hS hR hp
      obtain rfl : l = [(1, 27), (2, 28), (3, 29), (4, 30), (5, 31), (6, 32), (7, 33)] := hl.symm.trans (by kernel_rfl)
      have p1 : (fun v W => ∃ A0, v = .slice A0 0 0 ∧ W.ownsRow w1.heap.size DPT 4 v 0 []) (vs 1) W := hp 1 (by decide) (by decide)
      dsimp only at p1
      have p7 : vs 7 = _ := hp 7 (by decide) (by decide)
      clear hp hl
      refine opgoal ({ dst := some 34, op := Op.call { callee := Callee.builtin Builtin.append, args := #[Operand.tmp 27, Operand.tmp 33], argTypes := #[47, 47] }, type := 47, pos := "ref.go:59", after := #[{ on := 1, ground := Ground.data }, { on := 7, ground := Ground.data }], guard := none }) (some 34) rfl rfl fun K hK => ?_
      obtain ⟨A0, q1, o1⟩ := p1
      rw [q1] at o1
      refine runs_append_fresh W (wanted_none rfl) (.tmp 27) (.tmp 33) w1.heap.size 47 DPT (.agg #[.int .i64 0, .int .i64 0, .string ⟨#[]⟩, .bool false]) 4 40 rfl (by kernel_rfl) (by kernel_rfl) rfl (by decide) (by decide) A0 (by simp [putAll, Act.put, Act.eval, q1]) o1 (some ⟨g, 0, none⟩) (ix) (cL) (by simp [putAll, Act.put, Act.eval, p7]) (fun h => by cases h) (FA) (hFA.out) (hLA.out W hS) (hOA.out) (by have := hn9.out; omega) hS.size ?_
      intro v' w' h1 h2
      exact hK _ _ h1 (fun _ => below2 hS h2) ⟨fun h => absurd h (by decide), fun _ => ⟨h2, h2.mono hS.size⟩⟩ _ put_dfs (put_slot (by simp))
    · -- 9: Op.move (Operand.tmp 0)
      intro l hl vs W hS hR hp
      obtain rfl : l = [] := hl.symm.trans (by kernel_rfl)
      clear hp hl
      refine opgoal (_) (some 35) rfl rfl fun K hK => ?_
      refine Runs.mk ?_
      simp only [putAll]
      go_simp
      refine hK _ _ ?_ (fun _ => hS) ⟨fun h => absurd h (by decide), fun _ => ((fun w => ⟨Below.refl _ _, Below.refl _ _⟩) W)⟩ _ rfl rfl
      first | rfl | go_simp | simp
    · -- 10: Op.nilCheck (Operand.tmp 35)
      intro l hl vs W hS hR hp
      obtain rfl : l = [(9, 35)] := hl.symm.trans (by kernel_rfl)
      have p9 : vs 9 = _ := hp 9 (by decide) (by decide)
      clear hp hl
      refine opgoal (_) (some 36) rfl rfl fun K hK => ?_
      refine Runs.mk ?_
      simp only [putAll]
      go_simp
      refine hK _ _ ?_ (fun _ => hS) ⟨fun h => absurd h (by decide), fun _ => ((fun w => ⟨Below.refl _ _, Below.refl _ _⟩) W)⟩ _ rfl rfl
      first | rfl | go_simp | simp
    · -- 11: Op.fieldAddr 56 (Operand.tmp 36) 1
      intro l hl vs W hS hR hp
      obtain rfl : l = [(9, 35), (10, 36)] := hl.symm.trans (by kernel_rfl)
      have p10 : vs 10 = _ := hp 10 (by decide) (by decide)
      clear hp hl
      refine opgoal (_) (some 37) rfl rfl fun K hK => ?_
      refine Runs.mk ?_
      simp only [putAll]
      go_simp
      refine hK _ _ ?_ (fun _ => hS) ⟨fun h => absurd h (by decide), fun _ => ((fun w => ⟨Below.refl _ _, Below.refl _ _⟩) W)⟩ _ rfl rfl
      first | rfl | go_simp | simp
    · -- 12: Op.load 47 (Operand.tmp 37)
      intro l hl vs W hS hR hp
      obtain rfl : l = [(9, 35), (10, 36), (11, 37)] := hl.symm.trans (by kernel_rfl)
      have p11 : vs 11 = _ := hp 11 (by decide) (by decide)
      clear hp hl
      refine opgoal (_) (some 38) rfl rfl fun K hK => ?_
      have hb1 : W.cell? ⟨d, 1, none⟩ = some VV := cell_below hS HCL.out
      rw [hVV.out] at hb1
      refine Runs.mk ?_
      simp only [putAll]
      go_simp
      refine hK _ _ ?_ (fun _ => hS) ⟨fun h => absurd h (by decide), fun _ => ((fun w => ⟨Below.refl _ _, Below.refl _ _⟩) W)⟩ _ rfl rfl
      first | rfl | go_simp | simp
    · -- 13: Op.move (Operand.tmp 1)
      intro l hl vs W hS hR hp
      obtain rfl : l = [] := hl.symm.trans (by kernel_rfl)
      clear hp hl
      refine opgoal (_) (some 39) rfl rfl fun K hK => ?_
      refine Runs.mk ?_
      simp only [putAll]
      go_simp
      refine hK _ _ ?_ (fun _ => hS) ⟨fun h => absurd h (by decide), fun _ => ((fun w => ⟨Below.refl _ _, Below.refl _ _⟩) W)⟩ _ rfl rfl
      first | rfl | go_simp | simp
    · -- 14: Op.binOp BinOp.add 3 (Operand.tmp 39) (Operand.const (Value.int IntKind.i64 1)) 3
      intro l hl vs W hS hR hp
      obtain rfl : l = [(13, 39)] := hl.symm.trans (by kernel_rfl)
      have p13 : vs 13 = _ := hp 13 (by decide) (by decide)
      clear hp hl
      refine opgoal (_) (some 40) rfl rfl fun K hK => ?_
      have hwr' := hwr.out
      refine Runs.mk ?_
      simp only [putAll]
      go_simp
      refine hK _ _ ?_ (fun _ => hS) ⟨fun h => absurd h (by decide), fun _ => ((fun w => ⟨Below.refl _ _, Below.refl _ _⟩) W)⟩ _ rfl rfl
      first | rfl | go_simp | simp
    · -- 15: Op.slice 47 (Operand.tmp 38) (some (Operand.tmp 40)) none none
      intro l hl vs W hS hR hp
      obtain rfl : l = [(9, 35), (10, 36), (11, 37), (12, 38), (13, 39), (14, 40)] := hl.symm.trans (by kernel_rfl)
      have p12 : vs 12 = _ := hp 12 (by decide) (by decide)
      have p14 : vs 14 = _ := hp 14 (by decide) (by decide)
      clear hp hl
      refine opgoal (_) (some 41) rfl rfl fun K hK => ?_
      have hAJ' := hAJ.out
      have hix := HIX.out
      refine Runs.mk ?_
      simp only [putAll]
      go_simp
      refine hK _ _ ?_ (fun _ => hS) ⟨fun h => absurd h (by decide), fun _ => ((fun w => ⟨Below.refl _ _, Below.refl _ _⟩) W)⟩ _ rfl rfl
      first | rfl | go_simp | simp
    · -- 16: Op.call { callee := Callee.builtin Builtin.append, args := #[Operand.tmp 34, Operand.tmp 41], argTypes := #[47, 47] }
      intro l hl vs W hS hR hp
      obtain rfl : l = [(1, 27), (2, 28), (3, 29), (4, 30), (5, 31), (6, 32), (7, 33), (8, 34), (9, 35), (10, 36), (11, 37), (12, 38), (13, 39), (14, 40), (15, 41)] := hl.symm.trans (by kernel_rfl)
      have p8 : (fun v W => W.ownsRow w1.heap.size DPT 4 v (ix) (FA)) (vs 8) W := hp 8 (by decide) (by decide)
      dsimp only at p8
      have p15 : vs 15 = _ := hp 15 (by decide) (by decide)
      clear hp hl
      refine opgoal ({ dst := some 42, op := Op.call { callee := Callee.builtin Builtin.append, args := #[Operand.tmp 34, Operand.tmp 41], argTypes := #[47, 47] }, type := 47, pos := "ref.go:59", after := #[{ on := 8, ground := Ground.data }, { on := 15, ground := Ground.data }, { on := 8, ground := Ground.chain }], guard := none }) (some 42) rfl rfl fun K hK => ?_
      refine runs_append_src W (wanted_none rfl) (.tmp 34) (.tmp 41) w1.heap.size 47 DPT (.agg #[.int .i64 0, .int .i64 0, .string ⟨#[]⟩, .bool false]) 4 40 rfl (by kernel_rfl) (by kernel_rfl) rfl (by decide) (by decide) (vs 8) (ix) (FA) (by simp [putAll, Act.put, Act.eval]) p8 (some AJ) ((nL - jx)) ((cL - jx)) (by simp [putAll, Act.put, Act.eval, p15]) (fun h => by cases h) (FB) (hFB.out) (hLB.out W hS) (hOB.out) (by have := hn9.out; omega) hS.size ?_
      intro v' w' h1 h2 h3
      have hbl := below_of_grown h2 hS.size (fun k hk => (own_lt p8 k hk).1)
      exact hK _ _ h1 (fun _ => hS.trans hbl) ⟨fun _ => Lo.of hbl, fun h => absurd (by decide) h⟩ _ put_dfs (put_slot (by simp))
    · -- 17: Op.nilCheck (Operand.tmp 26)
      intro l hl vs W hS hR hp
      obtain rfl : l = [(0, 26), (1, 27), (2, 28), (3, 29), (4, 30), (5, 31), (6, 32), (7, 33), (8, 34), (9, 35), (10, 36), (11, 37), (12, 38), (13, 39), (14, 40), (15, 41), (16, 42)] := hl.symm.trans (by kernel_rfl)
      have p0 : vs 0 = _ := hp 0 (by decide) (by decide)
      clear hp hl
      refine opgoal (_) (some 43) rfl rfl fun K hK => ?_
      refine Runs.mk ?_
      simp only [putAll]
      go_simp
      refine hK _ _ ?_ (fun _ => hS) ⟨fun h => absurd h (by decide), fun _ => ((fun w => ⟨Below.refl _ _, Below.refl _ _⟩) W)⟩ _ rfl rfl
      first | rfl | go_simp | simp
    · -- 18: Op.fieldAddr 56 (Operand.tmp 43) 1
      intro l hl vs W hS hR hp
      obtain rfl : l = [(0, 26), (1, 27), (2, 28), (3, 29), (4, 30), (5, 31), (6, 32), (7, 33), (8, 34), (9, 35), (10, 36), (11, 37), (12, 38), (13, 39), (14, 40), (15, 41), (16, 42), (17, 43)] := hl.symm.trans (by kernel_rfl)
      have p17 : vs 17 = _ := hp 17 (by decide) (by decide)
      clear hp hl
      refine opgoal (_) (some 44) rfl rfl fun K hK => ?_
      refine Runs.mk ?_
      simp only [putAll]
      go_simp
      refine hK _ _ ?_ (fun _ => hS) ⟨fun h => absurd h (by decide), fun _ => ((fun w => ⟨Below.refl _ _, Below.refl _ _⟩) W)⟩ _ rfl rfl
      first | rfl | go_simp | simp
    · -- 19: Op.store 47 (Operand.tmp 44) (Operand.tmp 42)
      intro l hl vs W hS hR hp
      obtain rfl : l = [(0, 26), (1, 27), (2, 28), (3, 29), (4, 30), (5, 31), (6, 32), (7, 33), (8, 34), (9, 35), (10, 36), (11, 37), (12, 38), (13, 39), (14, 40), (15, 41), (16, 42), (17, 43), (18, 44)] := hl.symm.trans (by kernel_rfl)
      have p16 : (fun v W => W.ownsRow w1.heap.size DPT 4 v (ix + (nL - jx)) (FA ++ FB)) (vs 16) W := hp 16 (by decide) (by decide)
      dsimp only at p16
      have p18 : vs 18 = _ := hp 18 (by decide) (by decide)
      clear hp hl
      refine opgoal (_) (none) rfl rfl fun K hK => ?_
      obtain ⟨A', c', q16⟩ := own_form4 p16
      rw [q16] at p16
      have hb1 : W.cell? ⟨d, 1, none⟩ = some VV := cell_below hS HCL.out
      have hf1 : W.frozen? ⟨d, 1, none⟩ = false := (HD.out.below hS).cell.2.2.2.1
      refine Runs.mk ?_
      simp only [putAll]
      go_simp
      refine hK undef _ ?_ (fun h => absurd rfl h) ⟨fun _ => Lo.set _ _ _ _ _, fun h => absurd (by decide) h⟩ _ rfl rfl
      exact dd_fin HD.out hS p16 HE1.out.1 HE1.out.2
  · intro l hl vs W hR hp
    obtain rfl : l = [(0, 26), (1, 27), (2, 28), (3, 29), (4, 30), (5, 31), (6, 32), (7, 33), (8, 34), (9, 35), (10, 36), (11, 37), (12, 38), (13, 39), (14, 40), (15, 41), (16, 42), (17, 43), (18, 44)] := hl.symm.trans (by kernel_rfl)
    have p0 : vs 0 = _ := hp 0 (by decide) (by decide)
    have p2 : vs 2 = _ := hp 2 (by decide) (by decide)
    have p3 : vs 3 = _ := hp 3 (by decide) (by decide)
    have p4 : vs 4 = _ := hp 4 (by decide) (by decide)
    have p5 : vs 5 = _ := hp 5 (by decide) (by decide)
    have p6 : vs 6 = _ := hp 6 (by decide) (by decide)
    have p7 : vs 7 = _ := hp 7 (by decide) (by decide)
    have p9 : vs 9 = _ := hp 9 (by decide) (by decide)
    have p10 : vs 10 = _ := hp 10 (by decide) (by decide)
    have p11 : vs 11 = _ := hp 11 (by decide) (by decide)
    have p12 : vs 12 = _ := hp 12 (by decide) (by decide)
    have p13 : vs 13 = _ := hp 13 (by decide) (by decide)
    have p14 : vs 14 = _ := hp 14 (by decide) (by decide)
    have p15 : vs 15 = _ := hp 15 (by decide) (by decide)
    have p17 : vs 17 = _ := hp 17 (by decide) (by decide)
    have p18 : vs 18 = _ := hp 18 (by decide) (by decide)
    have p19 : (fun v W => ∃ v', Dd W d nodes v' L1 vC cs ∧ ∀ k, v'.ownBlock = some k → w1.heap.size ≤ k) (vs 19) W := hp 19 (by decide) (by decide)
    dsimp only at p19
    clear hp hl
    simp only [putAll_mk, setAll, List.setIfInBounds_toArray, List.set_cons_succ, List.set_cons_zero, p0, p2, p3, p4, p5, p6, p7, p9, p10, p11, p12, p13, p14, p15, p17, p18]
    have HE := Lib.hid p19
    have HR := Lib.hid hR
    clear p19 hR
    have hxw : W.heap[xb]? = some (.cells #[.int .i64 px, .int .i64 py, .string pS, .bool pq] DPT (0, 0)) := (HR.out.block xb HXB.out.1 HXB.out.2.1).trans HXB.out.2.2
    obtain ⟨k0, k1, k2, k3⟩ := dk_cells hxw
    have hzw : Hid (W.heap[rb]? = some (.cells #[.int .i64 0, .int .i64 0, .string ⟨#[]⟩, .bool false] DPT (0, 0))) := Lib.hid ((HR.out.block rb HRB.out.1 HRB.out.2.1).trans HRB.out.2.2)
    go_wp2_with (refine wpList_store_blk rfl DPT (.tmp 4) (.tmp 45) rfl rb 0 rfl DPT _ (.agg #[.int .i64 px, .int .i64 py, .string pS, .bool pq]) rfl hzw.out (by kernel_rfl) (by simp [Value.cells]) (by simp [Value.cells, Value.oneCell']) _ rfl ?_; intro w5 hg5 hu5)
    have r0 : w5.cell? ⟨rb, 0, none⟩ = some (.int .i64 px) := by rw [cell_of_row w5 _ 0 _ _ _ hg5]; rfl
    have r1 : w5.cell? ⟨rb, 1, none⟩ = some (.int .i64 py) := by rw [cell_of_row w5 _ 1 _ _ _ hg5]; rfl
    have r2 : w5.cell? ⟨rb, 2, none⟩ = some (.string pS) := by rw [cell_of_row w5 _ 2 _ _ _ hg5]; rfl
    have r3 : w5.cell? ⟨rb, 3, none⟩ = some (.bool pq) := by rw [cell_of_row w5 _ 3 _ _ _ hg5]; rfl
    refine bodyPost_ret (v := .tuple #[.agg #[.int .i64 px, .int .i64 py, .string pS, .bool pq], .int .i64 0]) (by simp [results, Try.results28, go_sem, r0, r1, r2, r3]) rfl ⟨rfl, ?_⟩
    exact HFIN.out _ w5 HE.out HR.out hu5
end Go.Proofs.Ytbdcgfdchkbcnaa.Ne

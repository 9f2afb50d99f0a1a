/- net: there, Take. -/
import Derived.Test.YtbdcgfdchkbcnaaNeG
namespace Go.Proofs.Ytbdcgfdchkbcnaa.Ne
open Go.RowKit Go.Proofs.Ytbdcgfdchkbcnaa.L Go.Proofs.Ytbdcgfdchkbcnaa.O Go.Proofs.Ytbdcgfdchkbcnaa.R Go.Proofs.Ytbdcgfdchkbcnaa.A Go.Proofs.Ytbdcgfdchkbcnaa.S Go.Proofs.Ytbdcgfdchkbcnaa.T Go.Proofs.Ytbdcgfdchkbcnaa.C Go.Proofs.Ytbdcgfdchkbcnaa.G Go.Proofs.Ytbdcgfdchkbcnaa.E
set_option linter.unusedVariables false
set_option linter.unusedSimpArgs false

theorem own_len {w : World} {base : Nat} {e : TypeId} {sz n m c : Nat} {v : Value} {A : Option Addr} {xs : List Value} (h : w.ownsRow base e sz v n xs) (hv : v = .slice A m c) : v = .slice A n c := by
  subst hv
  rcases h.2 with ⟨h1, h2⟩ | ⟨g, cap, cur, h1, _⟩
  · injection h1 with h1 h3 h4; subst h1; subst h3; subst h4; rw [h2]
  · injection h1 with h1 h3 h4; subst h1; subst h3; subst h4; rfl
theorem there_ok (b nodes mb n : Nat) (f : Int → Int → Bool) (v : Value) (L : List Value) (k i : Nat) (w : World) (h : Nt w b mb nodes n f v L k) (hi : i < k) :
    Calls Try.prog 64 #[.pointer (some ⟨b, 0, none⟩), .int .i64 i] w fun e w' => e = .returned (.bool true) ∧ w = w' := by
  obtain ⟨c0, c1, c2, f2⟩ := h.cell
  obtain ⟨A, c, hv⟩ := own_form4 h.own
  rw [hv] at c2
  have hd : decide ((i : Int) < (k : Int)) = true := by simp; omega
  clear h
  go_enter Try.func64, Try.ntmps64
  go_wp2
  go_ret
  exact ⟨rfl, rfl⟩
theorem one_pkt {L : List Pkt} : ∀ u ∈ L.flatMap encP, u.oneCell' = true := by
  intro u hu
  obtain ⟨e, _, h⟩ := List.mem_flatMap.1 hu
  simp only [encP, List.mem_cons, List.not_mem_nil, or_false] at h
  rcases h with rfl | rfl | rfl | rfl <;> rfl
set_option maxHeartbeats 4000000 in
set_option maxRecDepth 100000 in
theorem take_ok (b mb nodes n : Nat) (f : Int → Int → Bool) (v : Value) (Ls : List Pkt) (i : Nat) (w : World) (h : Nt w b mb nodes n f v (Ls.flatMap encP) Ls.length) (hi : i < Ls.length) (hsm : Ls.length ≤ 256) :
    Calls Try.prog 19 #[.pointer (some ⟨b, 0, none⟩), .int .i64 i] w fun e w' => e = .returned (.tuple #[.agg #[.int .i64 Ls[i].a, .int .i64 Ls[i].b, .string Ls[i].s, .bool Ls[i].q], .int .i64 0]) ∧ GoesN b mb nodes n f v ((Ls.eraseIdx i).flatMap encP) (Ls.length - 1) w w' := by
  obtain ⟨g, cap, hv⟩ : ∃ g cap, v = .slice (some ⟨g, 0, none⟩) Ls.length cap := by
    rcases h.own.2 with ⟨_, hn⟩ | ⟨g, cap, cur, hv, _⟩
    · omega
    · exact ⟨g, cap, hv⟩
  obtain ⟨k, hk⟩ : ∃ k, Ls.length = k := ⟨_, rfl⟩
  obtain ⟨⟨p1, p2, p3, p4⟩, hp⟩ : ∃ p : Pkt, Ls[i] = p := ⟨_, rfl⟩
  obtain ⟨R, hR⟩ : ∃ R, Ls.eraseIdx i = R := ⟨_, rfl⟩
  have hvb : v.ownBlock = some g := by rw [hv]; rfl
  obtain ⟨hgb, hgw⟩ := own_lt h.own g hvb
  have hlt := (Array.getElem?_eq_some_iff.1 h.blk).1
  have hmb := h.mb
  have hmw := h.map.lt
  have hown := h.own
  rw [hv, hk] at hown
  obtain ⟨A', c', hv', hrd, -, -⟩ := own_rdE hown encP_len hk
  cases hv'
  obtain ⟨ab, ao, hAe, q0, q1, q2, q3⟩ := pkt_at hrd i (by omega) hi _ hp
  obtain ⟨rfl, rfl⟩ : g = ab ∧ 0 = ao := by injection hAe with h1; injection h1 with h1 h2; exact ⟨h1, h2⟩
  obtain ⟨c0, c1, c2, f2⟩ := h.cell
  rw [hv, hk] at c2
  dsimp only at q0 q1 q2 q3
  -- the two new blocks
  obtain ⟨W, hW⟩ : ∃ W, Hid (w.alloc (.cells #[.int .i64 0, .int .i64 0, .string ⟨#[]⟩, .bool false] PT) = W) := ⟨_, Lib.hid rfl⟩
  have hb0 : Below w.heap.size w W := by rw [← hW.out]; exact below_alloc _ _
  have hz : W.heap[w.heap.size]? = some (.cells #[.int .i64 0, .int .i64 0, .string ⟨#[]⟩, .bool false] PT (0, 0)) := by rw [← hW.out]; exact heap_alloc_new _ _
  have hN := h.below hb0
  have HT := Lib.hid (there_ok b nodes mb n f v _ k i W (hk ▸ hN) (by omega))
  obtain ⟨xb, hxb⟩ : ∃ xb, Hid (W.heap.size = xb) := ⟨_, Lib.hid rfl⟩
  obtain ⟨W1, hW1⟩ : ∃ W1, Hid (W.alloc (.cells #[.int .i64 p1, .int .i64 p2, .string p3, .bool p4] PT) = W1) := ⟨_, Lib.hid rfl⟩
  have hb1 : Below W.heap.size W W1 := by rw [← hW1.out]; exact below_alloc _ _
  have hx1 : W1.heap[xb]? = some (.cells #[.int .i64 p1, .int .i64 p2, .string p3, .bool p4] PT (0, 0)) := by rw [← hW1.out, ← hxb.out]; exact heap_alloc_new _ _
  have hN1 := hN.below hb1
  have hown1 := hN1.own
  rw [hv, hk] at hown1
  have hdel := delete_any (b + 1) g cap k i (Ls.flatMap encP) W1 hown1 (by omega) one_pkt
  rw [show ((i + 1 : Nat) : Int) = (i : Int) + 1 by omega] at hdel
  have e1 : (Ls.flatMap encP).take (i * 4) ++ (Ls.flatMap encP).drop ((i + 1) * 4) = R.flatMap encP := by
    rw [flat_take encP_len, flat_drop encP_len, ← List.flatMap_append, ← hR, List.eraseIdx_eq_take_drop_succ]
  rw [e1] at hdel
  have HD := Lib.hid hdel
  have q0' := cell_below hb0 q0
  have q1' := cell_below hb0 q1
  have q2' := cell_below hb0 q2
  have q3' := cell_below hb0 q3
  have c2' := cell_below hb0 c2
  have c2'' := cell_below hb1 c2'
  have cW : ∀ o, (W.alloc o).cell? ⟨b, 2, none⟩ = some (.slice (some ⟨g, 0, none⟩) k cap) := fun o => cell_below (below_alloc W o) c2'
  have hwr : IntKind.i64.wrap ((i : Int) + 1) = (i : Int) + 1 := by rw [IntKind.wrap_i64]; omega
  have hxw : w.heap.size < xb := by rw [← hxb.out]; exact (Array.getElem?_eq_some_iff.1 hz).1
  have HB0 := Lib.hid hb0
  have HB1 := Lib.hid hb1
  have HZ := Lib.hid ((hb1.block w.heap.size (by rw [hxb.out]; exact hxw)).trans hz)
  have HX1 := Lib.hid hx1
  have HN1 := Lib.hid hN1
  have hik : i < k := by omega
  have hk9 : k ≤ 256 := by omega
  rw [hk, hp, hR]
  dsimp only
  rw [Nat.zero_add] at q0' q1' q2' q3'
  clear h hown hrd hAe q0 q1 q2 q3 c0 c1 c2 f2 hb0 hz hN hb1 hx1 hN1 hown1 hdel e1 hi hsm hk hp hR
  go_enter Try.func19, Try.ntmps19
  go_wp2_with fail
  rw [hW.out]
  refine HT.out.mono ?_
  rintro e w1 ⟨rfl, rfl⟩
  go_wp2_with fail
  rw [hW1.out, hxb.out]
  refine HD.out.mono ?_
  rintro e w2 ⟨rfl, ho2, hk2⟩
  have hnb : b ∉ ([g] : List Nat) := by simp; omega
  have d2 := keep_cell hk2 c2'' hnb
  have hbl := keep_block hk2 HN1.out.blk hnb
  have g2 : w2.frozen? ⟨b, 2, none⟩ = false := frozen_of_row w2 b 2 _ _ hbl
  have hx2 := keep_block hk2 HX1.out (by simp; omega)
  have hz2 := keep_block hk2 HZ.out (by simp; omega)
  have hm2 := HN1.out.map.keep hk2 (by simp; omega)
  -- behind the store into the net
  obtain ⟨w3, hw3⟩ : ∃ w3, w2.setCell ⟨b, 2, none⟩ (.slice (some ⟨g, 0, none⟩) (k - 1) cap) = w3 := ⟨_, rfl⟩
  have hk3 : Keep [b] w2 w3 := by rw [← hw3]; exact (Keep.refl _ _).setCell (p := ⟨b, 2, none⟩) (.inl (by simp)) _
  have hblk3 : w3.heap[b]? = some (.cells #[.int .i64 nodes, .map (some mb), .slice (some ⟨g, 0, none⟩) (k - 1) cap] 106 (0, 0)) := by rw [← hw3]; exact (Go.Proofs.Ytbdcgfdchkbcnaa.L.heap_setCell_at w2 b 2 _ _ _ _ hbl).trans rfl
  have hown3 := own_keep ho2 hk3 (fun j hj => by have := (own_lt ho2 j hj).1; simp; omega)
  have hm3 := hm2.keep hk3 (by simp; omega)
  have hx3 := keep_block hk3 hx2 (by simp; omega)
  have hz3 := Lib.hid (keep_block hk3 hz2 (by simp; omega))
  obtain ⟨k0, k1, k2, k3⟩ := pk_cells hx3
  have HALL := Lib.hid (And.intro hblk3 (And.intro hown3 (And.intro hm3 (And.intro hk2 hk3))))
  have HW3 := Lib.hid hw3
  clear cW
  clear hbl hx2 hz2 hm2 hk3 hblk3 hown3 hm3 hx3 hw3 ho2 hk2 q0' q1' q2' q3' c2' c2''
  go_wp2_with (first | (refine wpList_store_blk rfl PT (.tmp 4) (.tmp 30) rfl w.heap.size 0 rfl PT _ (.agg #[.int .i64 p1, .int .i64 p2, .string p3, .bool p4]) rfl hz3.out (by kernel_rfl) (by simp [Value.cells]) (by simp [Value.cells, Value.oneCell']) _ rfl ?_; intro w5 hg5 hu5) | rw [HW3.out])
  obtain ⟨r0, r1, r2, r3⟩ : w5.cell? ⟨w.heap.size, 0, none⟩ = some (.int .i64 p1) ∧ w5.cell? ⟨w.heap.size, 1, none⟩ = some (.int .i64 p2) ∧ w5.cell? ⟨w.heap.size, 2, none⟩ = some (.string p3) ∧ w5.cell? ⟨w.heap.size, 3, none⟩ = some (.bool p4) := by
    refine ⟨?_, ?_, ?_, ?_⟩ <;> (rw [cell_of_row w5 _ _ _ _ _ hg5]; rfl)
  refine bodyPost_ret (v := .tuple #[.agg #[.int .i64 p1, .int .i64 p2, .string p3, .bool p4], .int .i64 0]) (by simp [results, Try.results19, go_sem, r0, r1, r2, r3]) rfl ⟨rfl, ?_⟩
  obtain ⟨hblk3, hown3, hm3, hk2, hk3⟩ := HALL.out
  have hk5 : Keep [w.heap.size] w3 w5 := keep_upd hu5
  refine ⟨.slice (some ⟨g, 0, none⟩) (k - 1) cap, ⟨keep_block hk5 hblk3 (by simp; omega), own_keep hown3 hk5 (fun j hj => by cases hj; simp; omega), hm3.keep hk5 (by simp; omega), hmb⟩, ?_, .inl rfl⟩
  have hka : Keep (b :: v.ownBlock.toList) w w3 := ((Keep.of_below (below2 HB0.out HB1.out)).trans (hk2.mono (by simp [hvb]))).trans (hk3.mono (by simp))
  rw [hv] at hka
  refine ⟨hk5.os.trans hka.os, hk5.tape.trans hka.tape, hk5.output.trans hka.output, Nat.le_trans hka.size hk5.size, fun j hj hjn => (hk5.block j (Nat.lt_of_lt_of_le hj hka.size) (by simp; omega)).trans (hka.block j hj hjn)⟩
end Go.Proofs.Ytbdcgfdchkbcnaa.Ne

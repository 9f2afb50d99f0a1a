/- cache.put. -/
import Derived.Test.YtbdcgfdchkbcnaaCaC
namespace Go.Proofs.Ytbdcgfdchkbcnaa.Ca
open Go.RowKit Go.Proofs.Ytbdcgfdchkbcnaa.L Go.Proofs.Ytbdcgfdchkbcnaa.R Go.Proofs.Ytbdcgfdchkbcnaa.A Go.Proofs.Ytbdcgfdchkbcnaa.S Go.Proofs.Ytbdcgfdchkbcnaa.T Go.Proofs.Ytbdcgfdchkbcnaa.C Go.Proofs.Ytbdcgfdchkbcnaa.G Go.Proofs.Ytbdcgfdchkbcnaa.E Go.Proofs.Ytbdcgfdchkbcnaa.F
set_option linter.unusedVariables false
set_option linter.unusedSimpArgs false

theorem own_form4 {w : World} {base : Nat} {e : TypeId} {sz : Nat} {v : Value} {n : Nat} {xs : List Value} (h : w.ownsRow base e sz v n xs) : ∃ A c, v = .slice A n c := by
  rcases h.2 with ⟨rfl, rfl⟩ | ⟨g, cap, cur, rfl, _⟩
  · exact ⟨none, 0, rfl⟩
  · exact ⟨_, cap, rfl⟩
/-- c.l = append(c.l, e), while it goes on. -/
structure PushS (T E : TypeId) (b room sz x : Nat) (v0 : Value) (L : List Ent) (e : Ent) (f7 f10 : Bool) (W : World) : Prop where
  blk : f10 = false → W.heap[b]? = some (.cells #[.int .i64 room, v0] T (0, 0)) ∧ W.cell? ⟨b, 1, none⟩ = some v0
  own : f7 = false → W.ownsRow (b + 1) E 4 v0 L.length (L.flatMap encE)
  ent : W.cell? ⟨x, 0, none⟩ = some (.int .i64 e.1) ∧ W.cell? ⟨x, 1, none⟩ = some (.int .i64 e.2.1) ∧ W.cell? ⟨x, 2, none⟩ = some (.int .i64 e.2.2.1) ∧ W.cell? ⟨x, 3, none⟩ = some (.int .i64 e.2.2.2)
  last : f10 = true → ∃ v, Ca T E W b room v (L ++ [e]) ∧ (v.ownBlock = v0.ownBlock ∨ ∀ k, v.ownBlock = some k → sz ≤ k)
  szw : sz ≤ W.heap.size
  sb : b < sz
  bx : x ≠ b
  gx : v0.ownBlock ≠ some x
  gb : v0.ownBlock ≠ some b
theorem PushS.below {T E : TypeId} {b room sz x : Nat} {v0 : Value} {L : List Ent} {e : Ent} {f7 f10 : Bool} {W W' : World} (h : PushS T E b room sz x v0 L e f7 f10 W) (hb : Below W.heap.size W W') : PushS T E b room sz x v0 L e f7 f10 W' := by
  have hk : Keep [] W W' := .of_below hb
  obtain ⟨c0, c1, c2, c3⟩ := h.ent
  exact ⟨fun hf => ⟨keep_block hk (h.blk hf).1 (by simp), keep_cell hk (h.blk hf).2 (by simp)⟩, fun hf => own_kept (h.own hf) hb, ⟨keep_cell hk c0 (by simp), keep_cell hk c1 (by simp), keep_cell hk c2 (by simp), keep_cell hk c3 (by simp)⟩,
    fun hf => (by obtain ⟨v, hc, hv⟩ := h.last hf; exact ⟨v, hc.below hb, hv⟩), Nat.le_trans h.szw hk.size, h.sb, h.bx, h.gx, h.gb⟩
theorem PushS.app {T E : TypeId} {b room sz x : Nat} {v0 : Value} {L : List Ent} {e : Ent} {W W' : World} (h : PushS T E b room sz x v0 L e false false W) (hk : Keep v0.ownBlock.toList W W') : PushS T E b room sz x v0 L e true false W' := by
  have hb : b ∉ v0.ownBlock.toList := fun hm => h.gb (by simpa using hm)
  have hx : x ∉ v0.ownBlock.toList := fun hm => h.gx (by simpa using hm)
  obtain ⟨c0, c1, c2, c3⟩ := h.ent
  exact ⟨fun hf => ⟨keep_block hk (h.blk rfl).1 hb, keep_cell hk (h.blk rfl).2 hb⟩, (fun h => by cases h), ⟨keep_cell hk c0 hx, keep_cell hk c1 hx, keep_cell hk c2 hx, keep_cell hk c3 hx⟩, (fun h => by cases h), Nat.le_trans h.szw hk.size, h.sb, h.bx, h.gx, h.gb⟩
theorem PushS.fin {T E : TypeId} {b room sz x : Nat} {v0 : Value} {L : List Ent} {e : Ent} {W : World} {v : Value} (h : PushS T E b room sz x v0 L e true false W) (ho : W.ownsRow (b + 1) E 4 v (L.length + 1) (L.flatMap encE ++ encE e)) (hv : v.ownBlock = v0.ownBlock ∨ ∀ k, v.ownBlock = some k → sz ≤ k) :
    PushS T E b room sz x v0 L e true true (W.setCell ⟨b, 1, none⟩ v) := by
  have hk : Keep [b] W (W.setCell ⟨b, 1, none⟩ v) := (Keep.refl _ _).setCell (p := ⟨b, 1, none⟩) (.inl (by simp)) _
  have hx : x ∉ [b] := by have := h.bx; simpa using this
  obtain ⟨c0, c1, c2, c3⟩ := h.ent
  have ho' : W.ownsRow (b + 1) E 4 v (L ++ [e]).length ((L ++ [e]).flatMap encE) := by rw [List.length_append, List.flatMap_append]; simpa using ho
  exact ⟨(fun h => by cases h), (fun h => by cases h), ⟨keep_cell hk c0 hx, keep_cell hk c1 hx, keep_cell hk c2 hx, keep_cell hk c3 hx⟩, (fun _ => ⟨v, ⟨(Go.Proofs.Ytbdcgfdchkbcnaa.L.heap_setCell_at W b 1 _ _ _ v (h.blk rfl).1).trans rfl, own_keep ho' hk (fun k hk => by have := (own_lt ho k hk).1; simp; omega)⟩, hv⟩), Nat.le_trans h.szw hk.size, h.sb, h.bx, h.gx, h.gb⟩

theorem PushS.start {T E : TypeId} {b room x : Nat} {v0 : Value} {L : List Ent} {W : World} (sz : Nat) (e : Ent) (h : Ca T E W b room v0 L) (hx : x ≠ b) (gx : v0.ownBlock ≠ some x) (hs : sz ≤ W.heap.size) (hb : b < sz)
    (h0 : W.cell? ⟨x, 0, none⟩ = some (.int .i64 e.1)) (h1 : W.cell? ⟨x, 1, none⟩ = some (.int .i64 e.2.1)) (h2 : W.cell? ⟨x, 2, none⟩ = some (.int .i64 e.2.2.1)) (h3 : W.cell? ⟨x, 3, none⟩ = some (.int .i64 e.2.2.2)) : PushS T E b room sz x v0 L e false false W.drew :=
  ⟨fun _ => ⟨h.blk, h.cell.2.1⟩, fun _ => h.own, ⟨h0, h1, h2, h3⟩, (fun h => by cases h), hs, hb, hx, gx, fun hk => by have := (h.ne b hk).1; omega⟩
/-- an element of an owned row is stored as a whole. -/
theorem own_store {w : World} {base : Nat} {e : TypeId} {size n g cap : Nat} {xs : List Value} (h : w.ownsRow base e size (.slice (some ⟨g, 0, none⟩) n cap) n xs) (o : Nat) (vs : List Value) (ho : o + vs.length ≤ n * size) :
    ∃ cur, w.heap[g]? = some (.cells cur e (0, 0)) ∧ o + vs.length ≤ cur.size ∧ ∀ w' : World, w'.heap[g]? = some (.cells (cur.toList.take o ++ vs ++ cur.toList.drop (o + vs.length)).toArray e (0, 0)) → w'.ownsRow base e size (.slice (some ⟨g, 0, none⟩) n cap) n (xs.take o ++ vs ++ xs.drop (o + vs.length)) := by
  obtain ⟨hl, h⟩ := h
  rcases h with ⟨hv, _⟩ | ⟨g', cap', cur, hv, hb, hg, hn, hm, hs, ht⟩
  · cases hv
  · injection hv with h1 h2 h3
    injection h1 with h1
    injection h1 with h1 _
    subst h1
    subst h3
    have hns : n * size ≤ cap * size := Nat.mul_le_mul_right _ hn
    refine ⟨cur, hg, by omega, fun w' hw' => ⟨?_, .inr ⟨g, cap, _, rfl, hb, hw', hn, hm, ?_, ?_⟩⟩⟩
    · simp only [List.length_append, List.length_take, List.length_drop]; omega
    · simp only [List.size_toArray, List.length_append, List.length_take, List.length_drop, Array.length_toList]; omega
    · rw [← ht]
      simp only [List.take_append, List.take_take, List.length_take, List.length_append, Array.length_toList, List.drop_take]
      rw [Nat.min_eq_right (show o ≤ n * size by omega), Nat.min_eq_left (show o ≤ n * size by omega), Nat.min_eq_left (show o ≤ cur.size by omega), List.take_of_length_le (show vs.length ≤ n * size - o by omega), show n * size - (o + vs.length) = n * size - (o + vs.length) from rfl]

theorem flat_set {L : List Ent} {i : Nat} (hi : i < L.length) (e : Ent) : (L.flatMap encE).take (i * 4) ++ encE e ++ (L.flatMap encE).drop (i * 4 + (encE e).length) = (L.set i e).flatMap encE := by
  rw [show i * 4 + (encE e).length = (i + 1) * 4 by rw [encE_len]; omega, flat_take encE_len, flat_drop encE_len, List.set_eq_take_append_cons_drop, if_pos hi, List.flatMap_append, List.flatMap_cons, List.append_assoc]
theorem wrap1 (x : Int) (h : -9223372036854775808 ≤ x ∧ x ≤ 9223372036854775807) : IntKind.i64.wrap x = x := by rw [IntKind.wrap_i64]; omega
set_option maxHeartbeats 8000000 in
set_option maxRecDepth 100000 in
theorem put_any (b room : Nat) (v : Value) (L : List Ent) (e : Ent) (w : World) (h : Ca CT ET w b room v L) (hsm' : L.length ≤ 100000) (hrm : 0 < room ∧ room ≤ 100000) :
    Calls Try.prog 76 #[.pointer (some ⟨b, 0, none⟩), aggE e] w fun en w' => en = .returned (.bool (putL room e L).2) ∧ Goes b room v (putL room e L).1 w w' := by
  obtain ⟨z1, z2, z3, z4⟩ := e
  obtain ⟨W0, hW0⟩ : ∃ W0, W0 = w.alloc (.cells #[.int .i64 z1, .int .i64 z2, .int .i64 z3, .int .i64 z4] 77) := ⟨_, rfl⟩
  have hb0 : Below w.heap.size w W0 := by rw [hW0]; exact below_alloc _ _
  have hce : ∀ j u, (#[.int .i64 z1, .int .i64 z2, .int .i64 z3, .int .i64 z4] : Array Value)[j]? = some u → W0.cell? ⟨w.heap.size, j, none⟩ = some u := fun j u hu => by rw [hW0, cell_alloc, hu]
  have k0 := hce 0 _ rfl
  have k1 := hce 1 _ rfl
  have k2 := hce 2 _ rfl
  have k3 := hce 3 _ rfl
  have H0 := h.below hb0
  have HFI := Lib.hid (find_any b room v L z1 W0 H0)
  have hW0' := Lib.hid hW0
  have HB0 := Lib.hid hb0
  have hlt := h.lt
  have HNE := Lib.hid h.ne
  have HH0 := Lib.hid H0
  have hr0 := hrm.1
  have hr1 := hrm.2
  clear h hce hb0 hW0 hrm
  unfold aggE
  dsimp only
  cases hl : look z1 L with
  | some i =>
    obtain ⟨hi, e1, e2⟩ := look_some hl
    have hfn : fnd z1 L = i := by simp [fnd, hl]
    rw [hfn] at HFI
    obtain ⟨n, hn⟩ : ∃ n, L.length = n := ⟨_, rfl⟩
    obtain ⟨ei, hei⟩ : ∃ ei : Ent, L[i] = ei := ⟨_, rfl⟩
    have hin : i < n := by omega
    have hn9 : n ≤ 100000 := by omega
    -- what is read behind find
    have RD : Hid (∀ w1, Below W0.heap.size W0 w1 → ∃ A cp ab ao, v = .slice A n cp ∧ A = some ⟨ab, ao, none⟩ ∧ w1.cell? ⟨b, 1, none⟩ = some (.slice A n cp) ∧ w1.cell? ⟨w.heap.size, 1, none⟩ = some (.int .i64 z2) ∧ w1.cell? ⟨ab, ao + i * 4 + 1, none⟩ = some (.int .i64 ei.2.1)) := Lib.hid fun w1 hb1 => by
      have H1 := HH0.out.below hb1
      obtain ⟨A, cp, hvv, hr, hA, _⟩ := H1.rd
      obtain ⟨ab, ao, hAe, q0, q1, q2, q3⟩ := ent_at hr i hi hi ei hei
      have hc := H1.cell.2.1
      rw [hvv, hn] at hc
      exact ⟨A, cp, ab, ao, by rw [hvv, hn], hAe, hc, cell_below hb1 k1, q1⟩
    by_cases hv : z2 < (L.getD i z0).2.1
    · have hp : putL room (z1, z2, z3, z4) L = (L, false) := by simp only [putL, hl, hv, if_true]
      rw [hp]
      rw [getD_at hi, hei] at hv
      have hd : decide (z2 < ei.2.1) = true := by simpa using hv
      clear hp hi e1 e2 hl hfn hei
      go_enter Try.func76, Try.ntmps76
      go_wp2_with fail
      rw [← hW0'.out]
      refine HFI.out.mono ?_
      rintro en w1 ⟨rfl, hb1⟩
      obtain ⟨A, cp, ab, ao, hvv, hAe, q1, q2, q3⟩ := RD.out w1 hb1
      subst hAe
      have HB1 := Lib.hid hb1
      clear hb1
      go_wp2_with fail
      go_quiet (fail)
      go_wp2
      go_ret
      exact ⟨rfl, v, (HH0.out.below HB1.out).below (below_drewN _ w1), Chg.of_below (below2 (below2 HB0.out HB1.out) (below_drewN _ w1))⟩
    · have hp : putL room (z1, z2, z3, z4) L = (L.eraseIdx i ++ [(z1, z2, z3, z4)], true) := by simp only [putL, hl, hv, if_false]
      rw [hp]
      rw [getD_at hi, hei] at hv
      have hd : decide (z2 < ei.2.1) = false := by simpa using hv
      have K0 := Lib.hid k0
      have K1 := Lib.hid k1
      have K2 := Lib.hid k2
      have K3 := Lib.hid k3
      have HL := Lib.hid hi
      have HN := Lib.hid hn
      clear hp hi e1 e2 hl hfn hei k0 k1 k2 k3 hn
      go_enter Try.func76, Try.ntmps76
      go_wp2_with fail
      rw [← hW0'.out]
      refine HFI.out.mono ?_
      rintro en w1 ⟨rfl, hb1⟩
      obtain ⟨A, cp, ab, ao, hvv, hAe, q1, q2, q3⟩ := RD.out w1 hb1
      subst hAe
      have HB1 := Lib.hid hb1
      clear hb1
      go_wp2_with fail
      go_quiet (fail)
      clear q1 q2 q3
      have hb2 : Below W0.heap.size W0 (w1.drewN nq) := below2 HB1.out (below_drewN _ w1)
      obtain ⟨W2, hW2⟩ : ∃ W2, w1.drewN nq = W2 := ⟨_, rfl⟩
      rw [hW2] at hb2 ⊢
      have HW2 := Lib.hid hW2
      clear hW2
      have H2 := HH0.out.below hb2
      obtain ⟨A2, cp2, ab2, ao2, hvv2, hAe2, q1, q2, q3⟩ := RD.out W2 hb2
      obtain ⟨rfl, rfl, rfl⟩ : cp2 = cp ∧ ab2 = ab ∧ ao2 = ao := by
        rw [hvv2, hAe2] at hvv
        injection hvv with h1 h2 h3
        injection h1 with h1
        injection h1 with h1 h4
        exact ⟨h3, h1, h4⟩
      subst hAe2
      obtain rfl : ao2 = 0 := by
        rcases H2.own.2 with ⟨hv', _⟩ | ⟨g, cap', cur, hv', _⟩
        · rw [hvv] at hv'; cases hv'
        · rw [hvv] at hv'; injection hv' with h1; injection h1 with h1; injection h1
      have hown := H2.own
      have hn' := HN.out
      rw [hvv, hn'] at hown
      obtain ⟨cur, hcur, hcs, hput⟩ := own_store hown (i * 4) [.int .i64 z1, .int .i64 z2, .int .i64 z3, .int .i64 z4] (by simp; omega)
      have HP := Lib.hid hput
      have HX := Lib.hid (And.intro H2 hb2)
      have hx0 := cell_below hb2 K0.out
      have hx1 := cell_below hb2 K1.out
      have hx2 := cell_below hb2 K2.out
      have hx3 := cell_below hb2 K3.out
      clear hput hown H2 hb2 hn' q3
      go_wp2_with fail
      refine region_tail 7 (by kernel_rfl) (by kernel_rfl) ?_
      intro wz hzs hbz
      have y0 := cell_below hbz hx0
      have y1 := cell_below hbz hx1
      have y2 := cell_below hbz hx2
      have y3 := cell_below hbz hx3
      have yb := cell_below hbz q1
      clear hx0 hx1 hx2 hx3 q1 q2
      simp only [List.take_succ_cons, List.take_zero, List.drop_succ_cons, List.drop_zero]
      repeat still_step
      refine wpStill_nil ?_
      have hcz := hbz.block _ (Array.getElem?_eq_some_iff.1 hcur).1
      rw [hcur] at hcz
      have hcs' : i * 4 + 4 ≤ cur.size := hcs
      refine wpList_store_blk rfl _ (.tmp 35) (.tmp 34) rfl ab2 (i * 4) rfl 77 cur (.agg #[.int .i64 z1, .int .i64 z2, .int .i64 z3, .int .i64 z4]) rfl hcz (by kernel_rfl) hcs' (by simp [Value.cells, Value.oneCell']) _ rfl ?_
      intro w3 hg3 hu3
      have hY := Lib.hid (And.intro hbz hu3)
      have H3 : Hid (Ca CT ET w3 b room v (L.set i (z1, z2, z3, z4)) ∧ Chg b v W2 v w3) := by
        obtain ⟨H2, _⟩ := HX.out
        have ho := HP.out w3 hg3
        have hgb := H2.ne
        rw [hvv] at hgb
        have hgb := hgb ab2 rfl
        have hbl : W2.heap[b]? = w3.heap[b]? := by rw [hu3.block b (by omega), hbz.block b H2.lt]
        refine ⟨⟨hbl ▸ H2.blk, ?_⟩, (Keep.of_below hbz).trans ((keep_upd hu3).mono (by rw [hvv]; simp [Value.ownBlock])), .inl rfl⟩
        rw [← flat_set HL.out, List.length_set, HN.out, hvv]
        exact ho
      have hus := use_any b room v (L.set i (z1, z2, z3, z4)) i w3 H3.out.1 (by rw [List.length_set]; exact HL.out) (by rw [List.length_set, HN.out]; omega)
      rw [List.eraseIdx_set_eq, List.getElem_set_self] at hus
      have HUS := Lib.hid hus
      clear hus hcz hcs hg3 hu3 hbz y0 y1 y2 y3 yb hcur
      go_wp2_with fail
      refine HUS.out.mono ?_
      rintro en w4 ⟨rfl, v', H4, hc4⟩
      go_wp2
      go_ret
      exact ⟨rfl, v', H4, ((Chg.of_below (below2 HB0.out HX.out.2)).trans H3.out.2).trans hc4⟩
  | none =>
    have hfn : fnd z1 L = -1 := by simp [fnd, hl]
    rw [hfn] at HFI
    obtain ⟨n, hn⟩ : ∃ n, L.length = n := ⟨_, rfl⟩
    have hn9 : n ≤ 100000 := by omega
    have HN := Lib.hid hn
    have K0 := Lib.hid k0
    have K1 := Lib.hid k1
    have K2 := Lib.hid k2
    have K3 := Lib.hid k3
    clear k0 k1 k2 k3 hfn hsm'
    have RD : Hid (∀ w1, Below W0.heap.size W0 w1 → ∃ A cp, v = .slice A n cp ∧ w1.cell? ⟨b, 0, none⟩ = some (.int .i64 room) ∧ w1.cell? ⟨b, 1, none⟩ = some (.slice A n cp) ∧ w1.frozen? ⟨b, 1, none⟩ = false) := Lib.hid fun w1 hb1 => by
      have H1 := HH0.out.below hb1
      obtain ⟨A, cp, hvv, hr, hA, _⟩ := H1.rd
      obtain ⟨c0, c1, _, c3⟩ := H1.cell
      rw [hvv, HN.out] at c1
      exact ⟨A, cp, by rw [hvv, HN.out], c0, c1, c3⟩
    by_cases hv : room ≤ L.length
    · have hp : putL room (z1, z2, z3, z4) L = (L.eraseIdx 0 ++ [(z1, z2, z3, z4)], true) := by simp only [putL, hl, hv, if_true]
      rw [hp]
      rw [hn] at hv
      obtain ⟨LX, hLX⟩ : ∃ LX, L.eraseIdx 0 = LX := ⟨_, rfl⟩
      rw [hLX]
      have HLX := Lib.hid hLX
      clear hp hl hn hLX
      go_enter Try.func76, Try.ntmps76
      go_wp2_with fail
      rw [← hW0'.out]
      refine HFI.out.mono ?_
      rintro en w1 ⟨rfl, hb1⟩
      obtain ⟨A, cp, hvv, q0, q1, q2⟩ := RD.out w1 hb1
      have HB1 := Lib.hid hb1
      clear hb1
      go_wp2_with fail
      go_quiet (fail)
      clear q0 q1 q2
      have hb2 : Below W0.heap.size W0 (w1.drewN nq) := below2 HB1.out (below_drewN _ w1)
      obtain ⟨W2, hW2⟩ : ∃ W2, w1.drewN nq = W2 := ⟨_, rfl⟩
      rw [hW2] at hb2 ⊢
      have HW2 := Lib.hid hW2
      clear hW2
      obtain ⟨A2, cp2, hvv2, q0, q1, q2⟩ := RD.out W2 hb2
      have HB2 := Lib.hid hb2
      clear hb2 HB1
      go_wp2_with fail
      go_quiet (fail)
      clear q0 q1 q2
      have hb3 : Below W0.heap.size W0 (W2.drewN nq) := below2 HB2.out (below_drewN _ W2)
      obtain ⟨W3, hW3⟩ : ∃ W3, W2.drewN nq = W3 := ⟨_, rfl⟩
      rw [hW3] at hb3 ⊢
      have HW3 := Lib.hid hW3
      clear hW3
      obtain ⟨A3, cp3, hvv3, q0, q1, q2⟩ := RD.out W3 hb3
      have H3 := HH0.out.below hb3
      obtain ⟨g, rfl⟩ : ∃ g, A3 = some ⟨g, 0, none⟩ := by
        rcases H3.own.2 with ⟨hv', hn0⟩ | ⟨g, cap', cur, hv', _⟩
        · have := HN.out; omega
        · rw [hvv3] at hv'; injection hv' with h1; exact ⟨g, h1⟩
      have hown := H3.own
      have hn' := HN.out
      rw [hvv3, hn'] at hown
      have hdel := delete_any (b + 1) g cp3 n 0 (L.flatMap encE) W3 hown (by omega) one_enc
      have HD : Hid (Calls Try.prog 86 #[.slice (some ⟨g, 0, none⟩) n cp3, .int .i64 0, .int .i64 1] W3 fun e w' => e = .returned (.slice (some ⟨g, 0, none⟩) (n - 1) cp3) ∧ w'.ownsRow (b + 1) ET 4 (.slice (some ⟨g, 0, none⟩) (n - 1) cp3) (n - 1) ((L.eraseIdx 0).flatMap encE) ∧ Keep [g] W3 w') := Lib.hid (by
        have e1 : (L.flatMap encE).take (0 * 4) ++ (L.flatMap encE).drop ((0 + 1) * 4) = (L.eraseIdx 0).flatMap encE := by
          rw [flat_take encE_len, flat_drop encE_len, ← List.flatMap_append, List.eraseIdx_eq_take_drop_succ]
        rw [e1] at hdel
        exact hdel)
      have HX := Lib.hid (And.intro H3 hb3)
      clear hown hn' hdel H3 hb3
      go_wp2_with fail
      refine HD.out.mono ?_
      rintro en w4 ⟨rfl, ho4, hk4⟩
      have hgb : b ≠ g ∧ g < W3.heap.size := by
        have := HX.out.1.ne
        rw [hvv3] at this
        have := this g rfl
        exact ⟨by omega, this.2⟩
      have r1 := keep_cell hk4 q1 (by simpa using hgb.1)
      have r2 : w4.frozen? ⟨b, 1, none⟩ = false := (hk4.frozen HX.out.1.lt (by simpa using hgb.1)).trans q2
      have HO4 := Lib.hid ho4
      have HK4 := Lib.hid hk4
      clear ho4 hk4 q0 q1 q2
      go_wp2_with fail
      obtain ⟨w5, hw5⟩ : ∃ w5, w5 = w4.setCell ⟨b, 1, none⟩ (.slice (some ⟨g, 0, none⟩) (n - 1) cp3) := ⟨_, rfl⟩
      rw [← hw5]
      have hk5 : Keep [b] w4 w5 := by rw [hw5]; exact (Keep.refl _ _).setCell (p := ⟨b, 1, none⟩) (.inl (by simp)) _
      have hLX := HLX.out
      have hlx : LX.length = n - 1 := by rw [← hLX, List.length_eraseIdx, HN.out]; split <;> omega
      obtain ⟨VV, hVV'⟩ : ∃ VV, VV = Value.slice (some ⟨g, 0, none⟩) (n - 1) cp3 := ⟨_, rfl⟩
      have ho4 := HO4.out
      rw [hLX, ← hVV', ← hlx] at ho4
      have hbl := keep_block HK4.out HX.out.1.blk (by simpa using hgb.1)
      have h5 : Ca CT ET w5 b room VV LX := by
        refine ⟨?_, own_keep ho4 hk5 (fun k hk => by have := (own_lt ho4 k hk).1; simp; omega)⟩
        rw [hw5, ← hVV']
        exact (Go.Proofs.Ytbdcgfdchkbcnaa.L.heap_setCell_at w4 b 1 _ _ _ VV hbl).trans rfl
      have hvb : v.ownBlock = some g := by rw [hvv3]; rfl
      have hVb : VV.ownBlock = some g := by rw [hVV']; rfl
      have hc5 : Chg b v w VV w5 := by
        refine (Chg.of_below (below2 HB0.out HX.out.2)).trans (v1 := v) ⟨((HK4.out.mono (by simp [hvb])).trans (hk5.mono (by simp))), .inl (by rw [hVb, hvb])⟩
      have hgw : g < w.heap.size := (HNE.out g hvb).2
      have hkx : Keep [g, b] W0 w5 := ((Keep.of_below HX.out.2).trans (HK4.out.mono (by simp))).trans (hk5.mono (by simp))
      have hxn : w.heap.size ∉ [g, b] := by simp; omega
      have HS0 := Lib.hid (PushS.start w.heap.size (z1, z2, z3, z4) h5 (x := w.heap.size) (by omega) (by rw [hVb]; simp; omega) (Nat.le_trans HB0.out.size hkx.size) hlt (keep_cell hkx K0.out hxn) (keep_cell hkx K1.out hxn) (keep_cell hkx K2.out hxn) (keep_cell hkx K3.out hxn))
      have HFIN : Hid (∀ W, PushS CT ET b room w.heap.size w.heap.size VV LX (z1, z2, z3, z4) true true W → Keep (b :: VV.ownBlock.toList) w5.drew W → Goes b room v (LX ++ [(z1, z2, z3, z4)]) w W) := Lib.hid fun W hs hk => by
        obtain ⟨v', hc, hv'⟩ := hs.last rfl
        refine ⟨v', hc, ?_⟩
        have hk' : Keep (b :: VV.ownBlock.toList) w5 W := ((Keep.refl _ w5).drew).trans hk
        refine ⟨hc5.keep.trans (hk'.mono (by rw [hVb, hvb]; intro x hx; exact hx)), ?_⟩
        rw [hVb] at hv'
        rw [hvb]
        exact hv'
      have hVV : Hid (VV = .slice (some ⟨g, 0, none⟩) LX.length cp3) := Lib.hid (by rw [hVV', hlx])
      have hsm : Hid (LX.length ≤ 100000) := Lib.hid (by omega)
      obtain ⟨VA, hVA⟩ : ∃ VA, (some ⟨g, 0, none⟩ : Option Addr) = VA := ⟨_, rfl⟩
      obtain ⟨vc, hvc⟩ : ∃ vc, cp3 = vc := ⟨_, rfl⟩
      rw [hVA, hvc] at hVV
      have hS0 := HS0.out
      clear hk5 hlx ho4 hbl h5 hvb hVb hc5 hkx hxn hVA hvc hVV' hw5 r1 r2 hvv hvv2 hvv3
      refine wp_region_done (fun d => PushS CT ET b room w.heap.size w.heap.size VV LX (z1, z2, z3, z4) (d 7) (d 10)) (fun u v => Keep (b :: VV.ownBlock.toList) u v) (fun k u v => (k = 7 → (fun u v => Keep VV.ownBlock.toList u v) u v) ∧ (k = 10 → (fun u v => Keep [b] u v) u v) ∧ (¬ k = 7 → ¬ k = 10 → (fun u v => Below u.heap.size u v) u v)) (fun a i => match i with
          | 0 => (fun v _ => v = .pointer (some ⟨b, 0, none⟩))
          | 1 => (fun v _ => v = .pointer (some ⟨b, 0, none⟩))
          | 2 => (fun v _ => v = .pointer (some ⟨b, 0, none⟩))
          | 3 => (fun v _ => v = .pointer (some ⟨b, 1, none⟩))
          | 4 => (fun v _ => v = .slice VA LX.length vc)
          | 5 => (fun v _ => v = .agg #[.int .i64 z1, .int .i64 z2, .int .i64 z3, .int .i64 z4])
          | 6 => (fun v W => ∃ j, v = .slice (some ⟨j, 0, none⟩) 1 1 ∧ j < W.heap.size ∧ W.heap[j]? = some (.cells #[.int .i64 z1, .int .i64 z2, .int .i64 z3, .int .i64 z4] 77 (0, 0)))
          | 7 => (fun v W => W.ownsRow (b + 1) 77 4 v (LX.length + 1) (LX.flatMap encE ++ encE (z1, z2, z3, z4)) ∧ (v.ownBlock = VV.ownBlock ∨ ∀ k, v.ownBlock = some k → w.heap.size ≤ k))
          | 8 => (fun v _ => v = .pointer (some ⟨b, 0, none⟩))
          | 9 => (fun v _ => v = .pointer (some ⟨b, 1, none⟩))
          | 10 => (fun v W => True)
          | _ => (fun _ _ => True)) #[0, 0, 2, 6, 14, 0, 32, 126, 255, 511, 1023] #[0, 0, 2, 4, 8, 0, 32, 80, 1, 256, 640] 1855 (by kernel_rfl) 11 rfl (fun m hm => by subst hm; kernel_rfl) (by kernel_rfl) (fun w => Keep.refl _ w) (fun u v w h1 h2 => h1.trans h2) ?_ ?_ (hS0) ?_ ?_
      · intro k u v hk hr
        by_cases hs7 : k = 7
        · have h := hr.1 hs7; exact h.mono (by intro x hx; exact List.mem_cons_of_mem _ hx)
        by_cases hs10 : k = 10
        · have h := hr.2.1 hs10; exact h.mono (by simp)
        have h := hr.2.2 hs7 hs10; exact Keep.of_below h
      · intro i hi
        rcases (by omega : i = 0 ∨ i = 1 ∨ i = 2 ∨ i = 3 ∨ i = 4 ∨ i = 5 ∨ i = 6 ∨ i = 7 ∨ i = 8 ∨ i = 9 ∨ i = 10) with rfl | rfl | rfl | rfl | rfl | rfl | rfl | rfl | rfl | rfl | rfl
        · intro k hk y hy hyt v w w' h hr
          exact h
        · intro k hk y hy hyt v w w' h hr
          exact h
        · intro k hk y hy hyt v w w' h hr
          exact h
        · intro k hk y hy hyt v w w' h hr
          exact h
        · intro k hk y hy hyt v w w' h hr
          exact h
        · intro k hk y hy hyt v w w' h hr
          exact h
        · intro k hk y hy hyt v w w' h hr
          by_cases hs7 : k = 7
          · have hr0 := hr.1 hs7
            subst hs7
            exact absurd (hy.trans hyt) (ne_true_of_eq_false (by kernel_rfl))
          by_cases hs10 : k = 10
          · have hr0 := hr.2.1 hs10
            subst hs10
            exact absurd (hy.trans hyt) (ne_true_of_eq_false (by kernel_rfl))
          have hr := hr.2.2 hs7 hs10
          obtain ⟨j, h1, h2, h3⟩ := h; exact ⟨j, h1, Nat.lt_of_lt_of_le h2 hr.size, (hr.block j h2).trans h3⟩
        · intro k hk y hy hyt v w w' h hr
          by_cases hs7 : k = 7
          · have hr0 := hr.1 hs7
            subst hs7
            exact absurd (hy.trans hyt) (ne_true_of_eq_false (by kernel_rfl))
          by_cases hs10 : k = 10
          · have hr0 := hr.2.1 hs10
            subst hs10
            exact absurd (hy.trans hyt) (ne_true_of_eq_false (by kernel_rfl))
          have hr := hr.2.2 hs7 hs10
          exact ⟨own_kept h.1 hr, h.2⟩
        · intro k hk y hy hyt v w w' h hr
          exact h
        · intro k hk y hy hyt v w w' h hr
          exact h
        · intro k hk y hy hyt v w w' h hr
          by_cases hs7 : k = 7
          · have hr0 := hr.1 hs7
            subst hs7
            exact absurd (hy.trans hyt) (ne_true_of_eq_false (by kernel_rfl))
          by_cases hs10 : k = 10
          · have hr0 := hr.2.1 hs10
            subst hs10
            exact absurd (hy.trans hyt) (ne_true_of_eq_false (by kernel_rfl))
          have hr := hr.2.2 hs7 hs10
          exact trivial
      · intro i hi
        rcases (by omega : i = 0 ∨ i = 1 ∨ i = 2 ∨ i = 3 ∨ i = 4 ∨ i = 5 ∨ i = 6 ∨ i = 7 ∨ i = 8 ∨ i = 9 ∨ i = 10) with rfl | rfl | rfl | rfl | rfl | rfl | rfl | rfl | rfl | rfl | rfl
        · -- 0: Op.move (Operand.tmp 0)
          intro l hl vs W dn e1 e2 e3 hS hR hp
          have f7 : dn 7 = dn 7 := rfl
          have f10 : dn 10 = false := e3 10 (by kernel_rfl)
          replace hS : (PushS CT ET b room w.heap.size w.heap.size VV LX (z1, z2, z3, z4) (dn 7) (dn 10)) W := hS
          rw [f10] at hS
          have g7 : (dn 7 || ((0 : Nat) == 7)) = dn 7 := Bool.or_false _
          have g10 : (dn 10 || ((0 : Nat) == 10)) = false := by rw [f10]; rfl
          refine OpGoal.imp (S1 := PushS CT ET b room w.heap.size w.heap.size VV LX (z1, z2, z3, z4) (dn 7) false) (fun W' h => ?_) ?_
          · show (PushS CT ET b room w.heap.size w.heap.size VV LX (z1, z2, z3, z4) (dn 7 || ((0 : Nat) == 7)) (dn 10 || ((0 : Nat) == 10))) W'
            rw [g7, g10]
            exact h
          clear g7 g10 e1 e2 e3
          obtain rfl : l = [] := hl.symm.trans (by kernel_rfl)
          clear hp hl
          refine opgoal (_) (some 58) rfl rfl fun K hK => ?_
          refine Runs.mk ?_
          simp only [putAll]
          go_simp
          refine hK _ _ ?_ hS ⟨fun h => absurd h (by decide), fun h => absurd h (by decide), fun h7 h10 => ((fun w => Below.refl _ w) W)⟩ _ rfl rfl
          first | rfl | go_simp | simp
        · -- 1: Op.move (Operand.tmp 0)
          intro l hl vs W dn e1 e2 e3 hS hR hp
          have f7 : dn 7 = false := e3 7 (by kernel_rfl)
          have f10 : dn 10 = false := e3 10 (by kernel_rfl)
          replace hS : (PushS CT ET b room w.heap.size w.heap.size VV LX (z1, z2, z3, z4) (dn 7) (dn 10)) W := hS
          rw [f7, f10] at hS
          have g7 : (dn 7 || ((1 : Nat) == 7)) = false := by rw [f7]; rfl
          have g10 : (dn 10 || ((1 : Nat) == 10)) = false := by rw [f10]; rfl
          refine OpGoal.imp (S1 := PushS CT ET b room w.heap.size w.heap.size VV LX (z1, z2, z3, z4) false false) (fun W' h => ?_) ?_
          · show (PushS CT ET b room w.heap.size w.heap.size VV LX (z1, z2, z3, z4) (dn 7 || ((1 : Nat) == 7)) (dn 10 || ((1 : Nat) == 10))) W'
            rw [g7, g10]
            exact h
          clear g7 g10 e1 e2 e3
          obtain rfl : l = [] := hl.symm.trans (by kernel_rfl)
          clear hp hl
          refine opgoal (_) (some 59) rfl rfl fun K hK => ?_
          refine Runs.mk ?_
          simp only [putAll]
          go_simp
          refine hK _ _ ?_ hS ⟨fun h => absurd h (by decide), fun h => absurd h (by decide), fun h7 h10 => ((fun w => Below.refl _ w) W)⟩ _ rfl rfl
          first | rfl | go_simp | simp
        · -- 2: Op.nilCheck (Operand.tmp 59)
          intro l hl vs W dn e1 e2 e3 hS hR hp
          have f7 : dn 7 = false := e3 7 (by kernel_rfl)
          have f10 : dn 10 = false := e3 10 (by kernel_rfl)
          replace hS : (PushS CT ET b room w.heap.size w.heap.size VV LX (z1, z2, z3, z4) (dn 7) (dn 10)) W := hS
          rw [f7, f10] at hS
          have g7 : (dn 7 || ((2 : Nat) == 7)) = false := by rw [f7]; rfl
          have g10 : (dn 10 || ((2 : Nat) == 10)) = false := by rw [f10]; rfl
          refine OpGoal.imp (S1 := PushS CT ET b room w.heap.size w.heap.size VV LX (z1, z2, z3, z4) false false) (fun W' h => ?_) ?_
          · show (PushS CT ET b room w.heap.size w.heap.size VV LX (z1, z2, z3, z4) (dn 7 || ((2 : Nat) == 7)) (dn 10 || ((2 : Nat) == 10))) W'
            rw [g7, g10]
            exact h
          clear g7 g10 e1 e2 e3
          obtain rfl : l = [(1, 59)] := hl.symm.trans (by kernel_rfl)
          have p1 : vs 1 = _ := hp 1 (by decide) (by decide)
          clear hp hl
          refine opgoal (_) (some 60) rfl rfl fun K hK => ?_
          refine Runs.mk ?_
          simp only [putAll]
          go_simp
          refine hK _ _ ?_ hS ⟨fun h => absurd h (by decide), fun h => absurd h (by decide), fun h7 h10 => ((fun w => Below.refl _ w) W)⟩ _ rfl rfl
          first | rfl | go_simp | simp
        · -- 3: Op.fieldAddr 118 (Operand.tmp 60) 1
          intro l hl vs W dn e1 e2 e3 hS hR hp
          have f7 : dn 7 = false := e3 7 (by kernel_rfl)
          have f10 : dn 10 = false := e3 10 (by kernel_rfl)
          replace hS : (PushS CT ET b room w.heap.size w.heap.size VV LX (z1, z2, z3, z4) (dn 7) (dn 10)) W := hS
          rw [f7, f10] at hS
          have g7 : (dn 7 || ((3 : Nat) == 7)) = false := by rw [f7]; rfl
          have g10 : (dn 10 || ((3 : Nat) == 10)) = false := by rw [f10]; rfl
          refine OpGoal.imp (S1 := PushS CT ET b room w.heap.size w.heap.size VV LX (z1, z2, z3, z4) false false) (fun W' h => ?_) ?_
          · show (PushS CT ET b room w.heap.size w.heap.size VV LX (z1, z2, z3, z4) (dn 7 || ((3 : Nat) == 7)) (dn 10 || ((3 : Nat) == 10))) W'
            rw [g7, g10]
            exact h
          clear g7 g10 e1 e2 e3
          obtain rfl : l = [(1, 59), (2, 60)] := hl.symm.trans (by kernel_rfl)
          have p2 : vs 2 = _ := hp 2 (by decide) (by decide)
          clear hp hl
          refine opgoal (_) (some 61) rfl rfl fun K hK => ?_
          refine Runs.mk ?_
          simp only [putAll]
          go_simp
          refine hK _ _ ?_ hS ⟨fun h => absurd h (by decide), fun h => absurd h (by decide), fun h7 h10 => ((fun w => Below.refl _ w) W)⟩ _ rfl rfl
          first | rfl | go_simp | simp
        · -- 4: Op.load 80 (Operand.tmp 61)
          intro l hl vs W dn e1 e2 e3 hS hR hp
          have f7 : dn 7 = false := e3 7 (by kernel_rfl)
          have f10 : dn 10 = false := e3 10 (by kernel_rfl)
          replace hS : (PushS CT ET b room w.heap.size w.heap.size VV LX (z1, z2, z3, z4) (dn 7) (dn 10)) W := hS
          rw [f7, f10] at hS
          have g7 : (dn 7 || ((4 : Nat) == 7)) = false := by rw [f7]; rfl
          have g10 : (dn 10 || ((4 : Nat) == 10)) = false := by rw [f10]; rfl
          refine OpGoal.imp (S1 := PushS CT ET b room w.heap.size w.heap.size VV LX (z1, z2, z3, z4) false false) (fun W' h => ?_) ?_
          · show (PushS CT ET b room w.heap.size w.heap.size VV LX (z1, z2, z3, z4) (dn 7 || ((4 : Nat) == 7)) (dn 10 || ((4 : Nat) == 10))) W'
            rw [g7, g10]
            exact h
          clear g7 g10 e1 e2 e3
          obtain rfl : l = [(1, 59), (2, 60), (3, 61)] := hl.symm.trans (by kernel_rfl)
          have p3 : vs 3 = _ := hp 3 (by decide) (by decide)
          clear hp hl
          refine opgoal (_) (some 62) rfl rfl fun K hK => ?_
          have hc1 : W.cell? ⟨b, 1, none⟩ = some VV := (hS.blk rfl).2
          rw [hVV.out] at hc1
          refine Runs.mk ?_
          simp only [putAll]
          go_simp
          refine hK _ _ ?_ hS ⟨fun h => absurd h (by decide), fun h => absurd h (by decide), fun h7 h10 => ((fun w => Below.refl _ w) W)⟩ _ rfl rfl
          first | rfl | go_simp | simp
        · -- 5: Op.load 77 (Operand.tmp 3)
          intro l hl vs W dn e1 e2 e3 hS hR hp
          have f7 : dn 7 = false := e3 7 (by kernel_rfl)
          have f10 : dn 10 = false := e3 10 (by kernel_rfl)
          replace hS : (PushS CT ET b room w.heap.size w.heap.size VV LX (z1, z2, z3, z4) (dn 7) (dn 10)) W := hS
          rw [f7, f10] at hS
          have g7 : (dn 7 || ((5 : Nat) == 7)) = false := by rw [f7]; rfl
          have g10 : (dn 10 || ((5 : Nat) == 10)) = false := by rw [f10]; rfl
          refine OpGoal.imp (S1 := PushS CT ET b room w.heap.size w.heap.size VV LX (z1, z2, z3, z4) false false) (fun W' h => ?_) ?_
          · show (PushS CT ET b room w.heap.size w.heap.size VV LX (z1, z2, z3, z4) (dn 7 || ((5 : Nat) == 7)) (dn 10 || ((5 : Nat) == 10))) W'
            rw [g7, g10]
            exact h
          clear g7 g10 e1 e2 e3
          obtain rfl : l = [] := hl.symm.trans (by kernel_rfl)
          clear hp hl
          refine opgoal (_) (some 63) rfl rfl fun K hK => ?_
          obtain ⟨c0, c1, c2, c3⟩ := hS.ent
          dsimp only at c0 c1 c2 c3
          refine Runs.mk ?_
          simp only [putAll]
          go_simp
          refine hK _ _ ?_ hS ⟨fun h => absurd h (by decide), fun h => absurd h (by decide), fun h7 h10 => ((fun w => Below.refl _ w) W)⟩ _ rfl rfl
          first | rfl | go_simp | simp
        · -- 6: Op.buildSlice 80 1 #[(0, Operand.tmp 63)]
          intro l hl vs W dn e1 e2 e3 hS hR hp
          have f7 : dn 7 = false := e3 7 (by kernel_rfl)
          have f10 : dn 10 = false := e3 10 (by kernel_rfl)
          replace hS : (PushS CT ET b room w.heap.size w.heap.size VV LX (z1, z2, z3, z4) (dn 7) (dn 10)) W := hS
          rw [f7, f10] at hS
          have g7 : (dn 7 || ((6 : Nat) == 7)) = false := by rw [f7]; rfl
          have g10 : (dn 10 || ((6 : Nat) == 10)) = false := by rw [f10]; rfl
          refine OpGoal.imp (S1 := PushS CT ET b room w.heap.size w.heap.size VV LX (z1, z2, z3, z4) false false) (fun W' h => ?_) ?_
          · show (PushS CT ET b room w.heap.size w.heap.size VV LX (z1, z2, z3, z4) (dn 7 || ((6 : Nat) == 7)) (dn 10 || ((6 : Nat) == 10))) W'
            rw [g7, g10]
            exact h
          clear g7 g10 e1 e2 e3
          obtain rfl : l = [(5, 63)] := hl.symm.trans (by kernel_rfl)
          have p5 : vs 5 = _ := hp 5 (by decide) (by decide)
          clear hp hl
          refine opgoal (_) (some 64) rfl rfl fun K hK => ?_
          refine Runs.mk ?_
          simp only [putAll]
          go_simp
          have hb := below_alloc W (.cells #[.int .i64 z1, .int .i64 z2, .int .i64 z3, .int .i64 z4] 77)
          exact hK _ _ ⟨W.heap.size, rfl, by simp, heap_alloc_new _ _⟩ (hS.below hb) ⟨(fun h => absurd h (by decide)), (fun h => absurd h (by decide)), fun h7 h10 => hb⟩ _ rfl rfl
        · -- 7: Op.call { callee := Callee.builtin Builtin.append, args := #[Operand.tmp 62, Operand.tmp 64], argTypes := #[80, 80] }
          intro l hl vs W dn e1 e2 e3 hS hR hp
          have f7 : dn 7 = false := e1
          have f10 : dn 10 = false := e3 10 (by kernel_rfl)
          replace hS : (PushS CT ET b room w.heap.size w.heap.size VV LX (z1, z2, z3, z4) (dn 7) (dn 10)) W := hS
          rw [f7, f10] at hS
          have g7 : (dn 7 || ((7 : Nat) == 7)) = true := by rw [f7]; rfl
          have g10 : (dn 10 || ((7 : Nat) == 10)) = false := by rw [f10]; rfl
          refine OpGoal.imp (S1 := PushS CT ET b room w.heap.size w.heap.size VV LX (z1, z2, z3, z4) true false) (fun W' h => ?_) ?_
          · show (PushS CT ET b room w.heap.size w.heap.size VV LX (z1, z2, z3, z4) (dn 7 || ((7 : Nat) == 7)) (dn 10 || ((7 : Nat) == 10))) W'
            rw [g7, g10]
            exact h
          clear g7 g10 e1 e2 e3
          obtain rfl : l = [(1, 59), (2, 60), (3, 61), (4, 62), (5, 63), (6, 64)] := hl.symm.trans (by kernel_rfl)
          have p4 : vs 4 = _ := hp 4 (by decide) (by decide)
          have p6 : (fun v W => ∃ j, v = .slice (some ⟨j, 0, none⟩) 1 1 ∧ j < W.heap.size ∧ W.heap[j]? = some (.cells #[.int .i64 z1, .int .i64 z2, .int .i64 z3, .int .i64 z4] 77 (0, 0))) (vs 6) W := hp 6 (by decide) (by decide)
          dsimp only at p6
          clear hp hl
          obtain ⟨j, q6, l6, b6⟩ := p6
          refine opgoal ({ dst := some 65, op := Op.call { callee := Callee.builtin Builtin.append, args := #[Operand.tmp 62, Operand.tmp 64], argTypes := #[80, 80] }, type := 80, pos := "cache.go:54", after := #[{ on := 4, ground := Ground.data }, { on := 6, ground := Ground.data }], guard := none }) (some 65) rfl rfl fun K hK => ?_
          refine runs_append_src W (wanted_none rfl) (.tmp 62) (.tmp 64) (b + 1) 80 77 (.agg #[.int .i64 0, .int .i64 0, .int .i64 0, .int .i64 0]) 4 32 rfl (by kernel_rfl) (by kernel_rfl) rfl (by decide) (by decide) VV LX.length (LX.flatMap encE) (by simp [putAll, Act.put, Act.eval, p4, hVV.out]) (hS.own rfl) (some ⟨j, 0, none⟩) 1 1 (by simp [putAll, Act.put, Act.eval, q6]) (fun h => by cases h) [.int .i64 z1, .int .i64 z2, .int .i64 z3, .int .i64 z4] rfl (lies_block b6) (by simp [Value.oneCell']) (by have := hsm.out; omega) (by have := hS.szw; have := hS.sb; omega) ?_
          intro v' w' h1 h2 h3
          have hkk : Keep VV.ownBlock.toList W w' := keep_grown h2 _ (fun j hj _ => by simp [hj])
          exact hK _ _ ⟨h1, h3.elim (fun h => .inl h) (fun h => .inr fun k hk => (by rw [h] at hk; cases hk; exact hS.szw))⟩ (hS.app hkk) ⟨(fun _ => hkk), (fun h => absurd h (by decide)), fun h7 h10 => absurd rfl h7⟩ _ put_dfs (put_slot (by simp))
        · -- 8: Op.nilCheck (Operand.tmp 58)
          intro l hl vs W dn e1 e2 e3 hS hR hp
          have f7 : dn 7 = true := e2 7 (by kernel_rfl)
          have f10 : dn 10 = false := e3 10 (by kernel_rfl)
          replace hS : (PushS CT ET b room w.heap.size w.heap.size VV LX (z1, z2, z3, z4) (dn 7) (dn 10)) W := hS
          rw [f7, f10] at hS
          have g7 : (dn 7 || ((8 : Nat) == 7)) = true := by rw [f7]; rfl
          have g10 : (dn 10 || ((8 : Nat) == 10)) = false := by rw [f10]; rfl
          refine OpGoal.imp (S1 := PushS CT ET b room w.heap.size w.heap.size VV LX (z1, z2, z3, z4) true false) (fun W' h => ?_) ?_
          · show (PushS CT ET b room w.heap.size w.heap.size VV LX (z1, z2, z3, z4) (dn 7 || ((8 : Nat) == 7)) (dn 10 || ((8 : Nat) == 10))) W'
            rw [g7, g10]
            exact h
          clear g7 g10 e1 e2 e3
          obtain rfl : l = [(0, 58), (1, 59), (2, 60), (3, 61), (4, 62), (5, 63), (6, 64), (7, 65)] := hl.symm.trans (by kernel_rfl)
          have p0 : vs 0 = _ := hp 0 (by decide) (by decide)
          clear hp hl
          refine opgoal (_) (some 66) rfl rfl fun K hK => ?_
          refine Runs.mk ?_
          simp only [putAll]
          go_simp
          refine hK _ _ ?_ hS ⟨fun h => absurd h (by decide), fun h => absurd h (by decide), fun h7 h10 => ((fun w => Below.refl _ w) W)⟩ _ rfl rfl
          first | rfl | go_simp | simp
        · -- 9: Op.fieldAddr 118 (Operand.tmp 66) 1
          intro l hl vs W dn e1 e2 e3 hS hR hp
          have f7 : dn 7 = true := e2 7 (by kernel_rfl)
          have f10 : dn 10 = false := e3 10 (by kernel_rfl)
          replace hS : (PushS CT ET b room w.heap.size w.heap.size VV LX (z1, z2, z3, z4) (dn 7) (dn 10)) W := hS
          rw [f7, f10] at hS
          have g7 : (dn 7 || ((9 : Nat) == 7)) = true := by rw [f7]; rfl
          have g10 : (dn 10 || ((9 : Nat) == 10)) = false := by rw [f10]; rfl
          refine OpGoal.imp (S1 := PushS CT ET b room w.heap.size w.heap.size VV LX (z1, z2, z3, z4) true false) (fun W' h => ?_) ?_
          · show (PushS CT ET b room w.heap.size w.heap.size VV LX (z1, z2, z3, z4) (dn 7 || ((9 : Nat) == 7)) (dn 10 || ((9 : Nat) == 10))) W'
            rw [g7, g10]
            exact h
          clear g7 g10 e1 e2 e3
          obtain rfl : l = [(0, 58), (1, 59), (2, 60), (3, 61), (4, 62), (5, 63), (6, 64), (7, 65), (8, 66)] := hl.symm.trans (by kernel_rfl)
          have p8 : vs 8 = _ := hp 8 (by decide) (by decide)
          clear hp hl
          refine opgoal (_) (some 67) rfl rfl fun K hK => ?_
          refine Runs.mk ?_
          simp only [putAll]
          go_simp
          refine hK _ _ ?_ hS ⟨fun h => absurd h (by decide), fun h => absurd h (by decide), fun h7 h10 => ((fun w => Below.refl _ w) W)⟩ _ rfl rfl
          first | rfl | go_simp | simp
        · -- 10: Op.store 80 (Operand.tmp 67) (Operand.tmp 65)
          intro l hl vs W dn e1 e2 e3 hS hR hp
          have f7 : dn 7 = true := e2 7 (by kernel_rfl)
          have f10 : dn 10 = false := e1
          replace hS : (PushS CT ET b room w.heap.size w.heap.size VV LX (z1, z2, z3, z4) (dn 7) (dn 10)) W := hS
          rw [f7, f10] at hS
          have g7 : (dn 7 || ((10 : Nat) == 7)) = true := by rw [f7]; rfl
          have g10 : (dn 10 || ((10 : Nat) == 10)) = true := by rw [f10]; rfl
          refine OpGoal.imp (S1 := PushS CT ET b room w.heap.size w.heap.size VV LX (z1, z2, z3, z4) true true) (fun W' h => ?_) ?_
          · show (PushS CT ET b room w.heap.size w.heap.size VV LX (z1, z2, z3, z4) (dn 7 || ((10 : Nat) == 7)) (dn 10 || ((10 : Nat) == 10))) W'
            rw [g7, g10]
            exact h
          clear g7 g10 e1 e2 e3
          obtain rfl : l = [(0, 58), (1, 59), (2, 60), (3, 61), (4, 62), (5, 63), (6, 64), (7, 65), (8, 66), (9, 67)] := hl.symm.trans (by kernel_rfl)
          have p7 : (fun v W => W.ownsRow (b + 1) 77 4 v (LX.length + 1) (LX.flatMap encE ++ encE (z1, z2, z3, z4)) ∧ (v.ownBlock = VV.ownBlock ∨ ∀ k, v.ownBlock = some k → w.heap.size ≤ k)) (vs 7) W := hp 7 (by decide) (by decide)
          dsimp only at p7
          have p9 : vs 9 = _ := hp 9 (by decide) (by decide)
          clear hp hl
          obtain ⟨o7, r7⟩ := p7
          refine opgoal (_) (none) rfl rfl fun K hK => ?_
          obtain ⟨A', c', q7⟩ := own_form4 o7
          rw [q7] at o7 r7
          have hc1 : W.cell? ⟨b, 1, none⟩ = some VV := (hS.blk rfl).2
          have hf1 : W.frozen? ⟨b, 1, none⟩ = false := frozen_of_row W _ _ _ _ (hS.blk rfl).1
          refine Runs.mk ?_
          simp only [putAll]
          go_simp
          exact hK undef _ trivial (hS.fin o7 r7) ⟨(fun h => absurd h (by decide)), (fun _ => (Keep.refl _ _).setCell (p := ⟨b, 1, none⟩) (.inl (by simp)) _), fun h7 h10 => absurd rfl h10⟩ _ rfl rfl
      · intro l hl vs W dn hd hS hR hp
        replace hS : (PushS CT ET b room w.heap.size w.heap.size VV LX (z1, z2, z3, z4) (dn 7) (dn 10)) W := hS
        rw [hd 7 (by decide), hd 10 (by decide)] at hS
        obtain rfl : l = [(0, 58), (1, 59), (2, 60), (3, 61), (4, 62), (5, 63), (6, 64), (7, 65), (8, 66), (9, 67)] := hl.symm.trans (by kernel_rfl)
        have p0 : vs 0 = _ := hp 0 (by decide) (by decide)
        have p1 : vs 1 = _ := hp 1 (by decide) (by decide)
        have p2 : vs 2 = _ := hp 2 (by decide) (by decide)
        have p3 : vs 3 = _ := hp 3 (by decide) (by decide)
        have p4 : vs 4 = _ := hp 4 (by decide) (by decide)
        have p5 : vs 5 = _ := hp 5 (by decide) (by decide)
        have p8 : vs 8 = _ := hp 8 (by decide) (by decide)
        have p9 : vs 9 = _ := hp 9 (by decide) (by decide)
        have p10 : (fun v W => True) (vs 10) W := hp 10 (by decide) (by decide)
        dsimp only at p10
        clear hp hl
        simp only [putAll_mk, setAll, List.setIfInBounds_toArray, List.set_cons_succ, List.set_cons_zero, p0, p1, p2, p3, p4, p5, p8, p9]
        have HS := Lib.hid hS
        have HR := Lib.hid hR
        clear hS hR p10
        go_wp2
        go_ret
        exact ⟨rfl, HFIN.out _ HS.out HR.out⟩
    · have hp : putL room (z1, z2, z3, z4) L = (L ++ [(z1, z2, z3, z4)], true) := by simp only [putL, hl, hv, if_false]
      rw [hp]
      rw [hn] at hv
      obtain ⟨LX, hLX⟩ : ∃ LX, L = LX := ⟨_, rfl⟩
      rw [hLX]
      have HLX := Lib.hid hLX
      clear hp hl hn hLX
      go_enter Try.func76, Try.ntmps76
      go_wp2_with fail
      rw [← hW0'.out]
      refine HFI.out.mono ?_
      rintro en w1 ⟨rfl, hb1⟩
      obtain ⟨A, cp, hvv, q0, q1, q2⟩ := RD.out w1 hb1
      have HB1 := Lib.hid hb1
      clear hb1
      go_wp2_with fail
      go_quiet (fail)
      clear q0 q1 q2
      have hb2 : Below W0.heap.size W0 (w1.drewN nq) := below2 HB1.out (below_drewN _ w1)
      obtain ⟨W2, hW2⟩ : ∃ W2, w1.drewN nq = W2 := ⟨_, rfl⟩
      rw [hW2] at hb2 ⊢
      have HW2 := Lib.hid hW2
      clear hW2
      obtain ⟨A2, cp2, hvv2, q0, q1, q2⟩ := RD.out W2 hb2
      have HB2 := Lib.hid hb2
      clear hb2 HB1
      go_wp2_with fail
      go_quiet (fail)
      clear q0 q1 q2
      have hb3 : Below W0.heap.size W0 (W2.drewN nq) := below2 HB2.out (below_drewN _ W2)
      obtain ⟨W3, hW3⟩ : ∃ W3, W2.drewN nq = W3 := ⟨_, rfl⟩
      rw [hW3] at hb3 ⊢
      have HW3 := Lib.hid hW3
      clear hW3
      obtain ⟨A3, cp3, hvv3, q0, q1, q2⟩ := RD.out W3 hb3
      have H3 := HH0.out.below hb3
      obtain ⟨w5, hw5⟩ : ∃ w5, w5 = W3 := ⟨_, rfl⟩
      obtain ⟨VV, hVV'⟩ : ∃ VV, VV = v := ⟨_, rfl⟩
      have h5 : Ca CT ET w5 b room VV LX := by rw [hw5, hVV', ← HLX.out]; exact H3
      have hc5 : Chg b v w VV w5 := by rw [hw5, hVV']; exact Chg.of_below (below2 HB0.out hb3)
      have hkx : Keep [] W0 w5 := by rw [hw5]; exact Keep.of_below hb3
      have hxn : w.heap.size ∉ ([] : List Nat) := by simp
      have hgx : VV.ownBlock ≠ some w.heap.size := fun hk => by rw [hVV'] at hk; have := (HNE.out _ hk).2; omega
      have HS0 := Lib.hid (PushS.start w.heap.size (z1, z2, z3, z4) h5 (x := w.heap.size) (by omega) hgx (Nat.le_trans HB0.out.size hkx.size) hlt (keep_cell hkx K0.out hxn) (keep_cell hkx K1.out hxn) (keep_cell hkx K2.out hxn) (keep_cell hkx K3.out hxn))
      have HFIN : Hid (∀ W, PushS CT ET b room w.heap.size w.heap.size VV LX (z1, z2, z3, z4) true true W → Keep (b :: VV.ownBlock.toList) w5.drew W → Goes b room v (LX ++ [(z1, z2, z3, z4)]) w W) := Lib.hid fun W hs hk => by
        obtain ⟨v', hc, hv'⟩ := hs.last rfl
        refine ⟨v', hc, ?_⟩
        have hk' : Keep (b :: VV.ownBlock.toList) w5 W := ((Keep.refl _ w5).drew).trans hk
        rw [hVV'] at hv' hk'
        exact ⟨hc5.keep.trans hk', hv'⟩
      have hVV : Hid (VV = .slice A3 LX.length cp3) := Lib.hid (by rw [hVV', hvv3, ← HLX.out, HN.out])
      have hsm : Hid (LX.length ≤ 100000) := Lib.hid (by rw [← HLX.out, HN.out]; exact hn9)
      obtain ⟨VA, hVA⟩ : ∃ VA, A3 = VA := ⟨_, rfl⟩
      obtain ⟨vc, hvc⟩ : ∃ vc, cp3 = vc := ⟨_, rfl⟩
      rw [hVA, hvc] at hVV
      have hS0 := HS0.out
      have HX := Lib.hid (And.intro H3 hb3)
      clear H3 hb3
      clear h5 hc5 hkx hxn hVA hvc hVV' hvv hvv2 hvv3 hgx q0 q1 q2
      go_wp2_with fail
      rw [← hw5]
      clear hw5
      refine wp_region_done (fun d => PushS CT ET b room w.heap.size w.heap.size VV LX (z1, z2, z3, z4) (d 7) (d 10)) (fun u v => Keep (b :: VV.ownBlock.toList) u v) (fun k u v => (k = 7 → (fun u v => Keep VV.ownBlock.toList u v) u v) ∧ (k = 10 → (fun u v => Keep [b] u v) u v) ∧ (¬ k = 7 → ¬ k = 10 → (fun u v => Below u.heap.size u v) u v)) (fun a i => match i with
          | 0 => (fun v _ => v = .pointer (some ⟨b, 0, none⟩))
          | 1 => (fun v _ => v = .pointer (some ⟨b, 0, none⟩))
          | 2 => (fun v _ => v = .pointer (some ⟨b, 0, none⟩))
          | 3 => (fun v _ => v = .pointer (some ⟨b, 1, none⟩))
          | 4 => (fun v _ => v = .slice VA LX.length vc)
          | 5 => (fun v _ => v = .agg #[.int .i64 z1, .int .i64 z2, .int .i64 z3, .int .i64 z4])
          | 6 => (fun v W => ∃ j, v = .slice (some ⟨j, 0, none⟩) 1 1 ∧ j < W.heap.size ∧ W.heap[j]? = some (.cells #[.int .i64 z1, .int .i64 z2, .int .i64 z3, .int .i64 z4] 77 (0, 0)))
          | 7 => (fun v W => W.ownsRow (b + 1) 77 4 v (LX.length + 1) (LX.flatMap encE ++ encE (z1, z2, z3, z4)) ∧ (v.ownBlock = VV.ownBlock ∨ ∀ k, v.ownBlock = some k → w.heap.size ≤ k))
          | 8 => (fun v _ => v = .pointer (some ⟨b, 0, none⟩))
          | 9 => (fun v _ => v = .pointer (some ⟨b, 1, none⟩))
          | 10 => (fun v W => True)
          | _ => (fun _ _ => True)) #[0, 0, 2, 6, 14, 0, 32, 126, 255, 511, 1023] #[0, 0, 2, 4, 8, 0, 32, 80, 1, 256, 640] 1855 (by kernel_rfl) 11 rfl (fun m hm => by subst hm; kernel_rfl) (by kernel_rfl) (fun w => Keep.refl _ w) (fun u v w h1 h2 => h1.trans h2) ?_ ?_ (hS0) ?_ ?_
      · intro k u v hk hr
        by_cases hs7 : k = 7
        · have h := hr.1 hs7; exact h.mono (by intro x hx; exact List.mem_cons_of_mem _ hx)
        by_cases hs10 : k = 10
        · have h := hr.2.1 hs10; exact h.mono (by simp)
        have h := hr.2.2 hs7 hs10; exact Keep.of_below h
      · intro i hi
        rcases (by omega : i = 0 ∨ i = 1 ∨ i = 2 ∨ i = 3 ∨ i = 4 ∨ i = 5 ∨ i = 6 ∨ i = 7 ∨ i = 8 ∨ i = 9 ∨ i = 10) with rfl | rfl | rfl | rfl | rfl | rfl | rfl | rfl | rfl | rfl | rfl
        · intro k hk y hy hyt v w w' h hr
          exact h
        · intro k hk y hy hyt v w w' h hr
          exact h
        · intro k hk y hy hyt v w w' h hr
          exact h
        · intro k hk y hy hyt v w w' h hr
          exact h
        · intro k hk y hy hyt v w w' h hr
          exact h
        · intro k hk y hy hyt v w w' h hr
          exact h
        · intro k hk y hy hyt v w w' h hr
          by_cases hs7 : k = 7
          · have hr0 := hr.1 hs7
            subst hs7
            exact absurd (hy.trans hyt) (ne_true_of_eq_false (by kernel_rfl))
          by_cases hs10 : k = 10
          · have hr0 := hr.2.1 hs10
            subst hs10
            exact absurd (hy.trans hyt) (ne_true_of_eq_false (by kernel_rfl))
          have hr := hr.2.2 hs7 hs10
          obtain ⟨j, h1, h2, h3⟩ := h; exact ⟨j, h1, Nat.lt_of_lt_of_le h2 hr.size, (hr.block j h2).trans h3⟩
        · intro k hk y hy hyt v w w' h hr
          by_cases hs7 : k = 7
          · have hr0 := hr.1 hs7
            subst hs7
            exact absurd (hy.trans hyt) (ne_true_of_eq_false (by kernel_rfl))
          by_cases hs10 : k = 10
          · have hr0 := hr.2.1 hs10
            subst hs10
            exact absurd (hy.trans hyt) (ne_true_of_eq_false (by kernel_rfl))
          have hr := hr.2.2 hs7 hs10
          exact ⟨own_kept h.1 hr, h.2⟩
        · intro k hk y hy hyt v w w' h hr
          exact h
        · intro k hk y hy hyt v w w' h hr
          exact h
        · intro k hk y hy hyt v w w' h hr
          by_cases hs7 : k = 7
          · have hr0 := hr.1 hs7
            subst hs7
            exact absurd (hy.trans hyt) (ne_true_of_eq_false (by kernel_rfl))
          by_cases hs10 : k = 10
          · have hr0 := hr.2.1 hs10
            subst hs10
            exact absurd (hy.trans hyt) (ne_true_of_eq_false (by kernel_rfl))
          have hr := hr.2.2 hs7 hs10
          exact trivial
      · intro i hi
        rcases (by omega : i = 0 ∨ i = 1 ∨ i = 2 ∨ i = 3 ∨ i = 4 ∨ i = 5 ∨ i = 6 ∨ i = 7 ∨ i = 8 ∨ i = 9 ∨ i = 10) with rfl | rfl | rfl | rfl | rfl | rfl | rfl | rfl | rfl | rfl | rfl
        · -- 0: Op.move (Operand.tmp 0)
          intro l hl vs W dn e1 e2 e3 hS hR hp
          have f7 : dn 7 = dn 7 := rfl
          have f10 : dn 10 = false := e3 10 (by kernel_rfl)
          replace hS : (PushS CT ET b room w.heap.size w.heap.size VV LX (z1, z2, z3, z4) (dn 7) (dn 10)) W := hS
          rw [f10] at hS
          have g7 : (dn 7 || ((0 : Nat) == 7)) = dn 7 := Bool.or_false _
          have g10 : (dn 10 || ((0 : Nat) == 10)) = false := by rw [f10]; rfl
          refine OpGoal.imp (S1 := PushS CT ET b room w.heap.size w.heap.size VV LX (z1, z2, z3, z4) (dn 7) false) (fun W' h => ?_) ?_
          · show (PushS CT ET b room w.heap.size w.heap.size VV LX (z1, z2, z3, z4) (dn 7 || ((0 : Nat) == 7)) (dn 10 || ((0 : Nat) == 10))) W'
            rw [g7, g10]
            exact h
          clear g7 g10 e1 e2 e3
          obtain rfl : l = [] := hl.symm.trans (by kernel_rfl)
          clear hp hl
          refine opgoal (_) (some 58) rfl rfl fun K hK => ?_
          refine Runs.mk ?_
          simp only [putAll]
          go_simp
          refine hK _ _ ?_ hS ⟨fun h => absurd h (by decide), fun h => absurd h (by decide), fun h7 h10 => ((fun w => Below.refl _ w) W)⟩ _ rfl rfl
          first | rfl | go_simp | simp
        · -- 1: Op.move (Operand.tmp 0)
          intro l hl vs W dn e1 e2 e3 hS hR hp
          have f7 : dn 7 = false := e3 7 (by kernel_rfl)
          have f10 : dn 10 = false := e3 10 (by kernel_rfl)
          replace hS : (PushS CT ET b room w.heap.size w.heap.size VV LX (z1, z2, z3, z4) (dn 7) (dn 10)) W := hS
          rw [f7, f10] at hS
          have g7 : (dn 7 || ((1 : Nat) == 7)) = false := by rw [f7]; rfl
          have g10 : (dn 10 || ((1 : Nat) == 10)) = false := by rw [f10]; rfl
          refine OpGoal.imp (S1 := PushS CT ET b room w.heap.size w.heap.size VV LX (z1, z2, z3, z4) false false) (fun W' h => ?_) ?_
          · show (PushS CT ET b room w.heap.size w.heap.size VV LX (z1, z2, z3, z4) (dn 7 || ((1 : Nat) == 7)) (dn 10 || ((1 : Nat) == 10))) W'
            rw [g7, g10]
            exact h
          clear g7 g10 e1 e2 e3
          obtain rfl : l = [] := hl.symm.trans (by kernel_rfl)
          clear hp hl
          refine opgoal (_) (some 59) rfl rfl fun K hK => ?_
          refine Runs.mk ?_
          simp only [putAll]
          go_simp
          refine hK _ _ ?_ hS ⟨fun h => absurd h (by decide), fun h => absurd h (by decide), fun h7 h10 => ((fun w => Below.refl _ w) W)⟩ _ rfl rfl
          first | rfl | go_simp | simp
        · -- 2: Op.nilCheck (Operand.tmp 59)
          intro l hl vs W dn e1 e2 e3 hS hR hp
          have f7 : dn 7 = false := e3 7 (by kernel_rfl)
          have f10 : dn 10 = false := e3 10 (by kernel_rfl)
          replace hS : (PushS CT ET b room w.heap.size w.heap.size VV LX (z1, z2, z3, z4) (dn 7) (dn 10)) W := hS
          rw [f7, f10] at hS
          have g7 : (dn 7 || ((2 : Nat) == 7)) = false := by rw [f7]; rfl
          have g10 : (dn 10 || ((2 : Nat) == 10)) = false := by rw [f10]; rfl
          refine OpGoal.imp (S1 := PushS CT ET b room w.heap.size w.heap.size VV LX (z1, z2, z3, z4) false false) (fun W' h => ?_) ?_
          · show (PushS CT ET b room w.heap.size w.heap.size VV LX (z1, z2, z3, z4) (dn 7 || ((2 : Nat) == 7)) (dn 10 || ((2 : Nat) == 10))) W'
            rw [g7, g10]
            exact h
          clear g7 g10 e1 e2 e3
          obtain rfl : l = [(1, 59)] := hl.symm.trans (by kernel_rfl)
          have p1 : vs 1 = _ := hp 1 (by decide) (by decide)
          clear hp hl
          refine opgoal (_) (some 60) rfl rfl fun K hK => ?_
          refine Runs.mk ?_
          simp only [putAll]
          go_simp
          refine hK _ _ ?_ hS ⟨fun h => absurd h (by decide), fun h => absurd h (by decide), fun h7 h10 => ((fun w => Below.refl _ w) W)⟩ _ rfl rfl
          first | rfl | go_simp | simp
        · -- 3: Op.fieldAddr 118 (Operand.tmp 60) 1
          intro l hl vs W dn e1 e2 e3 hS hR hp
          have f7 : dn 7 = false := e3 7 (by kernel_rfl)
          have f10 : dn 10 = false := e3 10 (by kernel_rfl)
          replace hS : (PushS CT ET b room w.heap.size w.heap.size VV LX (z1, z2, z3, z4) (dn 7) (dn 10)) W := hS
          rw [f7, f10] at hS
          have g7 : (dn 7 || ((3 : Nat) == 7)) = false := by rw [f7]; rfl
          have g10 : (dn 10 || ((3 : Nat) == 10)) = false := by rw [f10]; rfl
          refine OpGoal.imp (S1 := PushS CT ET b room w.heap.size w.heap.size VV LX (z1, z2, z3, z4) false false) (fun W' h => ?_) ?_
          · show (PushS CT ET b room w.heap.size w.heap.size VV LX (z1, z2, z3, z4) (dn 7 || ((3 : Nat) == 7)) (dn 10 || ((3 : Nat) == 10))) W'
            rw [g7, g10]
            exact h
          clear g7 g10 e1 e2 e3
          obtain rfl : l = [(1, 59), (2, 60)] := hl.symm.trans (by kernel_rfl)
          have p2 : vs 2 = _ := hp 2 (by decide) (by decide)
          clear hp hl
          refine opgoal (_) (some 61) rfl rfl fun K hK => ?_
          refine Runs.mk ?_
          simp only [putAll]
          go_simp
          refine hK _ _ ?_ hS ⟨fun h => absurd h (by decide), fun h => absurd h (by decide), fun h7 h10 => ((fun w => Below.refl _ w) W)⟩ _ rfl rfl
          first | rfl | go_simp | simp
        · -- 4: Op.load 80 (Operand.tmp 61)
          intro l hl vs W dn e1 e2 e3 hS hR hp
          have f7 : dn 7 = false := e3 7 (by kernel_rfl)
          have f10 : dn 10 = false := e3 10 (by kernel_rfl)
          replace hS : (PushS CT ET b room w.heap.size w.heap.size VV LX (z1, z2, z3, z4) (dn 7) (dn 10)) W := hS
          rw [f7, f10] at hS
          have g7 : (dn 7 || ((4 : Nat) == 7)) = false := by rw [f7]; rfl
          have g10 : (dn 10 || ((4 : Nat) == 10)) = false := by rw [f10]; rfl
          refine OpGoal.imp (S1 := PushS CT ET b room w.heap.size w.heap.size VV LX (z1, z2, z3, z4) false false) (fun W' h => ?_) ?_
          · show (PushS CT ET b room w.heap.size w.heap.size VV LX (z1, z2, z3, z4) (dn 7 || ((4 : Nat) == 7)) (dn 10 || ((4 : Nat) == 10))) W'
            rw [g7, g10]
            exact h
          clear g7 g10 e1 e2 e3
          obtain rfl : l = [(1, 59), (2, 60), (3, 61)] := hl.symm.trans (by kernel_rfl)
          have p3 : vs 3 = _ := hp 3 (by decide) (by decide)
          clear hp hl
          refine opgoal (_) (some 62) rfl rfl fun K hK => ?_
          have hc1 : W.cell? ⟨b, 1, none⟩ = some VV := (hS.blk rfl).2
          rw [hVV.out] at hc1
          refine Runs.mk ?_
          simp only [putAll]
          go_simp
          refine hK _ _ ?_ hS ⟨fun h => absurd h (by decide), fun h => absurd h (by decide), fun h7 h10 => ((fun w => Below.refl _ w) W)⟩ _ rfl rfl
          first | rfl | go_simp | simp
        · -- 5: Op.load 77 (Operand.tmp 3)
          intro l hl vs W dn e1 e2 e3 hS hR hp
          have f7 : dn 7 = false := e3 7 (by kernel_rfl)
          have f10 : dn 10 = false := e3 10 (by kernel_rfl)
          replace hS : (PushS CT ET b room w.heap.size w.heap.size VV LX (z1, z2, z3, z4) (dn 7) (dn 10)) W := hS
          rw [f7, f10] at hS
          have g7 : (dn 7 || ((5 : Nat) == 7)) = false := by rw [f7]; rfl
          have g10 : (dn 10 || ((5 : Nat) == 10)) = false := by rw [f10]; rfl
          refine OpGoal.imp (S1 := PushS CT ET b room w.heap.size w.heap.size VV LX (z1, z2, z3, z4) false false) (fun W' h => ?_) ?_
          · show (PushS CT ET b room w.heap.size w.heap.size VV LX (z1, z2, z3, z4) (dn 7 || ((5 : Nat) == 7)) (dn 10 || ((5 : Nat) == 10))) W'
            rw [g7, g10]
            exact h
          clear g7 g10 e1 e2 e3
          obtain rfl : l = [] := hl.symm.trans (by kernel_rfl)
          clear hp hl
          refine opgoal (_) (some 63) rfl rfl fun K hK => ?_
          obtain ⟨c0, c1, c2, c3⟩ := hS.ent
          dsimp only at c0 c1 c2 c3
          refine Runs.mk ?_
          simp only [putAll]
          go_simp
          refine hK _ _ ?_ hS ⟨fun h => absurd h (by decide), fun h => absurd h (by decide), fun h7 h10 => ((fun w => Below.refl _ w) W)⟩ _ rfl rfl
          first | rfl | go_simp | simp
        · -- 6: Op.buildSlice 80 1 #[(0, Operand.tmp 63)]
          intro l hl vs W dn e1 e2 e3 hS hR hp
          have f7 : dn 7 = false := e3 7 (by kernel_rfl)
          have f10 : dn 10 = false := e3 10 (by kernel_rfl)
          replace hS : (PushS CT ET b room w.heap.size w.heap.size VV LX (z1, z2, z3, z4) (dn 7) (dn 10)) W := hS
          rw [f7, f10] at hS
          have g7 : (dn 7 || ((6 : Nat) == 7)) = false := by rw [f7]; rfl
          have g10 : (dn 10 || ((6 : Nat) == 10)) = false := by rw [f10]; rfl
          refine OpGoal.imp (S1 := PushS CT ET b room w.heap.size w.heap.size VV LX (z1, z2, z3, z4) false false) (fun W' h => ?_) ?_
          · show (PushS CT ET b room w.heap.size w.heap.size VV LX (z1, z2, z3, z4) (dn 7 || ((6 : Nat) == 7)) (dn 10 || ((6 : Nat) == 10))) W'
            rw [g7, g10]
            exact h
          clear g7 g10 e1 e2 e3
          obtain rfl : l = [(5, 63)] := hl.symm.trans (by kernel_rfl)
          have p5 : vs 5 = _ := hp 5 (by decide) (by decide)
          clear hp hl
          refine opgoal (_) (some 64) rfl rfl fun K hK => ?_
          refine Runs.mk ?_
          simp only [putAll]
          go_simp
          have hb := below_alloc W (.cells #[.int .i64 z1, .int .i64 z2, .int .i64 z3, .int .i64 z4] 77)
          exact hK _ _ ⟨W.heap.size, rfl, by simp, heap_alloc_new _ _⟩ (hS.below hb) ⟨(fun h => absurd h (by decide)), (fun h => absurd h (by decide)), fun h7 h10 => hb⟩ _ rfl rfl
        · -- 7: Op.call { callee := Callee.builtin Builtin.append, args := #[Operand.tmp 62, Operand.tmp 64], argTypes := #[80, 80] }
          intro l hl vs W dn e1 e2 e3 hS hR hp
          have f7 : dn 7 = false := e1
          have f10 : dn 10 = false := e3 10 (by kernel_rfl)
          replace hS : (PushS CT ET b room w.heap.size w.heap.size VV LX (z1, z2, z3, z4) (dn 7) (dn 10)) W := hS
          rw [f7, f10] at hS
          have g7 : (dn 7 || ((7 : Nat) == 7)) = true := by rw [f7]; rfl
          have g10 : (dn 10 || ((7 : Nat) == 10)) = false := by rw [f10]; rfl
          refine OpGoal.imp (S1 := PushS CT ET b room w.heap.size w.heap.size VV LX (z1, z2, z3, z4) true false) (fun W' h => ?_) ?_
          · show (PushS CT ET b room w.heap.size w.heap.size VV LX (z1, z2, z3, z4) (dn 7 || ((7 : Nat) == 7)) (dn 10 || ((7 : Nat) == 10))) W'
            rw [g7, g10]
            exact h
          clear g7 g10 e1 e2 e3
          obtain rfl : l = [(1, 59), (2, 60), (3, 61), (4, 62), (5, 63), (6, 64)] := hl.symm.trans (by kernel_rfl)
          have p4 : vs 4 = _ := hp 4 (by decide) (by decide)
          have p6 : (fun v W => ∃ j, v = .slice (some ⟨j, 0, none⟩) 1 1 ∧ j < W.heap.size ∧ W.heap[j]? = some (.cells #[.int .i64 z1, .int .i64 z2, .int .i64 z3, .int .i64 z4] 77 (0, 0))) (vs 6) W := hp 6 (by decide) (by decide)
          dsimp only at p6
          clear hp hl
          obtain ⟨j, q6, l6, b6⟩ := p6
          refine opgoal ({ dst := some 65, op := Op.call { callee := Callee.builtin Builtin.append, args := #[Operand.tmp 62, Operand.tmp 64], argTypes := #[80, 80] }, type := 80, pos := "cache.go:54", after := #[{ on := 4, ground := Ground.data }, { on := 6, ground := Ground.data }], guard := none }) (some 65) rfl rfl fun K hK => ?_
          refine runs_append_src W (wanted_none rfl) (.tmp 62) (.tmp 64) (b + 1) 80 77 (.agg #[.int .i64 0, .int .i64 0, .int .i64 0, .int .i64 0]) 4 32 rfl (by kernel_rfl) (by kernel_rfl) rfl (by decide) (by decide) VV LX.length (LX.flatMap encE) (by simp [putAll, Act.put, Act.eval, p4, hVV.out]) (hS.own rfl) (some ⟨j, 0, none⟩) 1 1 (by simp [putAll, Act.put, Act.eval, q6]) (fun h => by cases h) [.int .i64 z1, .int .i64 z2, .int .i64 z3, .int .i64 z4] rfl (lies_block b6) (by simp [Value.oneCell']) (by have := hsm.out; omega) (by have := hS.szw; have := hS.sb; omega) ?_
          intro v' w' h1 h2 h3
          have hkk : Keep VV.ownBlock.toList W w' := keep_grown h2 _ (fun j hj _ => by simp [hj])
          exact hK _ _ ⟨h1, h3.elim (fun h => .inl h) (fun h => .inr fun k hk => (by rw [h] at hk; cases hk; exact hS.szw))⟩ (hS.app hkk) ⟨(fun _ => hkk), (fun h => absurd h (by decide)), fun h7 h10 => absurd rfl h7⟩ _ put_dfs (put_slot (by simp))
        · -- 8: Op.nilCheck (Operand.tmp 58)
          intro l hl vs W dn e1 e2 e3 hS hR hp
          have f7 : dn 7 = true := e2 7 (by kernel_rfl)
          have f10 : dn 10 = false := e3 10 (by kernel_rfl)
          replace hS : (PushS CT ET b room w.heap.size w.heap.size VV LX (z1, z2, z3, z4) (dn 7) (dn 10)) W := hS
          rw [f7, f10] at hS
          have g7 : (dn 7 || ((8 : Nat) == 7)) = true := by rw [f7]; rfl
          have g10 : (dn 10 || ((8 : Nat) == 10)) = false := by rw [f10]; rfl
          refine OpGoal.imp (S1 := PushS CT ET b room w.heap.size w.heap.size VV LX (z1, z2, z3, z4) true false) (fun W' h => ?_) ?_
          · show (PushS CT ET b room w.heap.size w.heap.size VV LX (z1, z2, z3, z4) (dn 7 || ((8 : Nat) == 7)) (dn 10 || ((8 : Nat) == 10))) W'
            rw [g7, g10]
            exact h
          clear g7 g10 e1 e2 e3
          obtain rfl : l = [(0, 58), (1, 59), (2, 60), (3, 61), (4, 62), (5, 63), (6, 64), (7, 65)] := hl.symm.trans (by kernel_rfl)
          have p0 : vs 0 = _ := hp 0 (by decide) (by decide)
          clear hp hl
          refine opgoal (_) (some 66) rfl rfl fun K hK => ?_
          refine Runs.mk ?_
          simp only [putAll]
          go_simp
          refine hK _ _ ?_ hS ⟨fun h => absurd h (by decide), fun h => absurd h (by decide), fun h7 h10 => ((fun w => Below.refl _ w) W)⟩ _ rfl rfl
          first | rfl | go_simp | simp
        · -- 9: Op.fieldAddr 118 (Operand.tmp 66) 1
          intro l hl vs W dn e1 e2 e3 hS hR hp
          have f7 : dn 7 = true := e2 7 (by kernel_rfl)
          have f10 : dn 10 = false := e3 10 (by kernel_rfl)
          replace hS : (PushS CT ET b room w.heap.size w.heap.size VV LX (z1, z2, z3, z4) (dn 7) (dn 10)) W := hS
          rw [f7, f10] at hS
          have g7 : (dn 7 || ((9 : Nat) == 7)) = true := by rw [f7]; rfl
          have g10 : (dn 10 || ((9 : Nat) == 10)) = false := by rw [f10]; rfl
          refine OpGoal.imp (S1 := PushS CT ET b room w.heap.size w.heap.size VV LX (z1, z2, z3, z4) true false) (fun W' h => ?_) ?_
          · show (PushS CT ET b room w.heap.size w.heap.size VV LX (z1, z2, z3, z4) (dn 7 || ((9 : Nat) == 7)) (dn 10 || ((9 : Nat) == 10))) W'
            rw [g7, g10]
            exact h
          clear g7 g10 e1 e2 e3
          obtain rfl : l = [(0, 58), (1, 59), (2, 60), (3, 61), (4, 62), (5, 63), (6, 64), (7, 65), (8, 66)] := hl.symm.trans (by kernel_rfl)
          have p8 : vs 8 = _ := hp 8 (by decide) (by decide)
          clear hp hl
          refine opgoal (_) (some 67) rfl rfl fun K hK => ?_
          refine Runs.mk ?_
          simp only [putAll]
          go_simp
          refine hK _ _ ?_ hS ⟨fun h => absurd h (by decide), fun h => absurd h (by decide), fun h7 h10 => ((fun w => Below.refl _ w) W)⟩ _ rfl rfl
          first | rfl | go_simp | simp
        · -- 10: Op.store 80 (Operand.tmp 67) (Operand.tmp 65)
          intro l hl vs W dn e1 e2 e3 hS hR hp
          have f7 : dn 7 = true := e2 7 (by kernel_rfl)
          have f10 : dn 10 = false := e1
          replace hS : (PushS CT ET b room w.heap.size w.heap.size VV LX (z1, z2, z3, z4) (dn 7) (dn 10)) W := hS
          rw [f7, f10] at hS
          have g7 : (dn 7 || ((10 : Nat) == 7)) = true := by rw [f7]; rfl
          have g10 : (dn 10 || ((10 : Nat) == 10)) = true := by rw [f10]; rfl
          refine OpGoal.imp (S1 := PushS CT ET b room w.heap.size w.heap.size VV LX (z1, z2, z3, z4) true true) (fun W' h => ?_) ?_
          · show (PushS CT ET b room w.heap.size w.heap.size VV LX (z1, z2, z3, z4) (dn 7 || ((10 : Nat) == 7)) (dn 10 || ((10 : Nat) == 10))) W'
            rw [g7, g10]
            exact h
          clear g7 g10 e1 e2 e3
          obtain rfl : l = [(0, 58), (1, 59), (2, 60), (3, 61), (4, 62), (5, 63), (6, 64), (7, 65), (8, 66), (9, 67)] := hl.symm.trans (by kernel_rfl)
          have p7 : (fun v W => W.ownsRow (b + 1) 77 4 v (LX.length + 1) (LX.flatMap encE ++ encE (z1, z2, z3, z4)) ∧ (v.ownBlock = VV.ownBlock ∨ ∀ k, v.ownBlock = some k → w.heap.size ≤ k)) (vs 7) W := hp 7 (by decide) (by decide)
          dsimp only at p7
          have p9 : vs 9 = _ := hp 9 (by decide) (by decide)
          clear hp hl
          obtain ⟨o7, r7⟩ := p7
          refine opgoal (_) (none) rfl rfl fun K hK => ?_
          obtain ⟨A', c', q7⟩ := own_form4 o7
          rw [q7] at o7 r7
          have hc1 : W.cell? ⟨b, 1, none⟩ = some VV := (hS.blk rfl).2
          have hf1 : W.frozen? ⟨b, 1, none⟩ = false := frozen_of_row W _ _ _ _ (hS.blk rfl).1
          refine Runs.mk ?_
          simp only [putAll]
          go_simp
          exact hK undef _ trivial (hS.fin o7 r7) ⟨(fun h => absurd h (by decide)), (fun _ => (Keep.refl _ _).setCell (p := ⟨b, 1, none⟩) (.inl (by simp)) _), fun h7 h10 => absurd rfl h10⟩ _ rfl rfl
      · intro l hl vs W dn hd hS hR hp
        replace hS : (PushS CT ET b room w.heap.size w.heap.size VV LX (z1, z2, z3, z4) (dn 7) (dn 10)) W := hS
        rw [hd 7 (by decide), hd 10 (by decide)] at hS
        obtain rfl : l = [(0, 58), (1, 59), (2, 60), (3, 61), (4, 62), (5, 63), (6, 64), (7, 65), (8, 66), (9, 67)] := hl.symm.trans (by kernel_rfl)
        have p0 : vs 0 = _ := hp 0 (by decide) (by decide)
        have p1 : vs 1 = _ := hp 1 (by decide) (by decide)
        have p2 : vs 2 = _ := hp 2 (by decide) (by decide)
        have p3 : vs 3 = _ := hp 3 (by decide) (by decide)
        have p4 : vs 4 = _ := hp 4 (by decide) (by decide)
        have p5 : vs 5 = _ := hp 5 (by decide) (by decide)
        have p8 : vs 8 = _ := hp 8 (by decide) (by decide)
        have p9 : vs 9 = _ := hp 9 (by decide) (by decide)
        have p10 : (fun v W => True) (vs 10) W := hp 10 (by decide) (by decide)
        dsimp only at p10
        clear hp hl
        simp only [putAll_mk, setAll, List.setIfInBounds_toArray, List.set_cons_succ, List.set_cons_zero, p0, p1, p2, p3, p4, p5, p8, p9]
        have HS := Lib.hid hS
        have HR := Lib.hid hR
        clear hS hR p10
        go_wp2
        go_ret
        exact ⟨rfl, HFIN.out _ HS.out HR.out⟩
end Go.Proofs.Ytbdcgfdchkbcnaa.Ca

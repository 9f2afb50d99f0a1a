/- cache: the law CachePlays. -/
import Derived.Test.YtbdcgfdchkbcnaaCaY
import Derived.Test.YtbdcgfdchkbcnaaCaT
namespace Go.Proofs.Ytbdcgfdchkbcnaa.Ca
open Go.RowKit Go.Proofs.Ytbdcgfdchkbcnaa.L Go.Proofs.Ytbdcgfdchkbcnaa.O Go.Proofs.Ytbdcgfdchkbcnaa.R Go.Proofs.Ytbdcgfdchkbcnaa.A Go.Proofs.Ytbdcgfdchkbcnaa.S Go.Proofs.Ytbdcgfdchkbcnaa.T Go.Proofs.Ytbdcgfdchkbcnaa.C Go.Proofs.Ytbdcgfdchkbcnaa.G Go.Proofs.Ytbdcgfdchkbcnaa.E Go.Proofs.Ytbdcgfdchkbcnaa.F
set_option linter.unusedVariables false
set_option linter.unusedSimpArgs false

def Fit (L : List Ent) (N : Nat) : Prop := L.length ≤ N ∧ Uniq L
set_option maxHeartbeats 16000000 in
set_option maxRecDepth 100000 in
theorem plays_walk (w : World) (room : Int) (A : Option Addr) (n c : Nat) (ops : List OpR) (hsc : Script w A n ops) :
    Calls Try.prog 13 #[.int .i64 room, .slice A n c] w fun e w' => e = .returned (.bool true) ∧ Below w.heap.size w w' := by
  have hn9 := hsc.rd.2.1
  have HS := Lib.hid hsc
  have HL := Lib.hid hsc.len
  have HA := Lib.hid (awake_any w)
  obtain ⟨gr, hgr⟩ : ∃ gr, Hid (greatB ops = gr) := ⟨_, Lib.hid rfl⟩
  have HG : Hid (∀ w1, Below w.heap.size w w1 → Calls Try.prog 52 #[.slice A n c] w1 fun e w' => e = .returned (.bool gr) ∧ Below w1.heap.size w1 w') := Lib.hid fun w1 hb => by
    rw [← hgr.out]; exact great_any A n c ops w1 (hsc.below hb)
  have HGR : Hid (gr = false → n ≤ 150 ∧ ∀ o ∈ ops, o.L.n ≤ 40 ∧ o.C.n ≤ 40) := Lib.hid fun hg => by
    rw [← hgr.out] at hg
    simp only [greatB, Bool.or_eq_false_iff, decide_eq_false_iff_not, List.any_eq_false, Bool.or_eq_true, decide_eq_true_eq, not_or] at hg
    exact ⟨by have := HL.out; omega, fun o ho => by have := hg.2 o ho; omega⟩
  clear hsc
  go_enter Try.func13, Try.ntmps13
  go_wp2_with fail
  refine HA.out.mono ?_
  rintro e w1 ⟨rfl, hb1⟩
  have HB1 := Lib.hid hb1
  clear hb1
  go_wp2_with fail
  refine (HG.out w1 HB1.out).mono ?_
  rintro e w2 ⟨rfl, hb2⟩
  have HB2 := Lib.hid (below2 HB1.out hb2)
  clear hb2
  cases gr with
  | true =>
    go_wp2
    go_ret
    exact ⟨rfl, HB2.out⟩
  | false =>
    by_cases hbad : room < 1 ∨ 16 < room
    · have HNB := Lib.hid (new_bad room w2 hbad)
      go_wp2_with fail
      refine HNB.out.mono ?_
      rintro e w3 ⟨rfl, hb3⟩
      have HB3 := Lib.hid (below2 HB2.out hb3)
      clear hb3
      by_cases h1 : room < 1
      · have d1 : decide (room < 1) = true := by simpa using h1
        go_wp2
        go_ret
        exact ⟨rfl, HB3.out⟩
      · have d1 : decide (room < 1) = false := by simpa using h1
        have d2 : decide (16 < room) = true := by simp; omega
        go_wp2
        go_ret
        exact ⟨rfl, HB3.out⟩
    · obtain ⟨N, rfl⟩ : ∃ N : Nat, room = (N : Int) := ⟨room.toNat, by omega⟩
      have hN1 : 0 < N := by omega
      have hN2 : N ≤ 16 := by omega
      have d1 : decide ((N : Int) < 1) = false := by simp; omega
      have d2 : decide ((16 : Int) < (N : Int)) = false := by simp; omega
      have d1n : decide (N < 1) = false := by simp; omega
      have d2n : decide (16 < N) = false := by simp; omega
      have HNW := Lib.hid (cp_new w w2 HB2.out N hN1 hN2)
      clear hbad
      go_wp2_with fail
      refine HNW.out.mono ?_
      rintro e w3 ⟨b, rfl, hc3, -, -⟩
      have hst := tw_start hc3
      obtain ⟨b2, hb2e⟩ : ∃ b2, Hid (w3.heap.size = b2) := ⟨_, Lib.hid rfl⟩
      obtain ⟨W3, hW3⟩ : ∃ W3, Hid (w3.alloc (.cells #[.int .i64 (N : Int), .slice none 0 0] DT) = W3) := ⟨_, Lib.hid rfl⟩
      rw [hW3.out, hb2e.out] at hst
      have HST := Lib.hid hst
      clear hc3 hst
      go_wp2_with fail
      rw [hW3.out, hb2e.out]
      clear d1 d2 d1n d2n
      go_loopw [57] (fun i wr => ∃ (k : Nat) (L : List Ent), k ≤ n ∧ i = .int .i64 k ∧ Tw w wr [] b b2 N L L ∧ L.length ≤ N ∧ Hid (Uniq L)) (fun i _ => n - (intOf i).toNat)
      case atStart => exact ⟨0, [], by omega, rfl, HST.out, by simp, Lib.hid List.nodup_nil⟩
      case round =>
        obtain ⟨k, L, hkn, rfl, htw, hLN, hU⟩ := hrel
        by_cases hlt : k < n
        · have hkl : k < ops.length := by have := HL.out; omega
          obtain ⟨o, ho⟩ : ∃ o, Hid (ops[k] = o) := ⟨_, Lib.hid rfl⟩
          have hsw := HS.out.below htw.bel
          obtain ⟨ab, f, hA, c0, c1, c2, c3, c4⟩ := hsw.at k hlt hkl o ho.out
          have hom : o ∈ ops := by rw [← ho.out]; exact List.getElem_mem _
          have hls := Lib.hid (HS.out.ls o hom)
          have hog := (HGR.out (by trivial)).2 o hom
          subst hA
          obtain ⟨ob, hob⟩ : ∃ ob, Hid (wr.heap.size = ob) := ⟨_, Lib.hid rfl⟩
          obtain ⟨W, hW⟩ : ∃ W, Hid (wr.alloc (opO o) = W) := ⟨_, Lib.hid rfl⟩
          obtain ⟨p, HO⟩ : ∃ p, Hid (p = o) := ⟨_, Lib.hid rfl⟩
          have hcW : Tw w W [(ob, opO p)] b b2 N L L := by
            have := htw.alloc (opO o)
            rw [hW.out, hob.out] at this
            rw [HO.out]
            exact this
          have HC4 := Lib.hid hcW
          clear hsw htw hcW ho hom
          obtain ⟨ok, oc, ox, ⟨LA, Ln, Lc, Lxs⟩, ⟨CA, Cn, Cc, Cxs⟩⟩ := o
          dsimp only at c0 c1 c2 c3 c4 hls hog
          unfold opO at hW
          dsimp only at hW
          go_upto_block 2 with (fail)
          rw [hW.out, hob.out]
          clear c0 c1 c2 c3 c4
          go_cut [63] (fun s63 wx => ∃ L' : List Ent, Tw w wx [(ob, opO p)] b b2 N L' L' ∧ Hid (Fit L' N))
          case first =>
            have HCE : Hid (∀ wx L1 L2, Tw w wx [(ob, opO p)] b b2 N L1 L2 → wx.cell? ⟨ob, 0, none⟩ = some (.int .i64 ok) ∧ wx.cell? ⟨ob, 1, none⟩ = some (.int .i64 oc) ∧ wx.cell? ⟨ob, 2, none⟩ = some (.int .i64 ox) ∧ wx.cell? ⟨ob, 3, none⟩ = some (.slice LA Ln Lc) ∧ wx.cell? ⟨ob, 4, none⟩ = some (.slice CA Cn Cc)) := Lib.hid fun wx L1 L2 h => by
              have := op_cells (h.pr (ob, opO p) (by simp)).1
              rw [HO.out] at this
              exact this
            obtain ⟨c0, c1, c2, c3, c4⟩ := HCE.out _ _ _ HC4.out
            by_cases k0 : ok = 0
            · have e0 : (ok == 0) = true := by simpa using k0
              as_aux_lemma =>
                have hLn9 : Ln ≤ 40 := hog.1
                have hLl : Hid (Lxs.length = Ln) := Lib.hid (by have := hls.out.1.1; simpa using this)
                have hFt : Hid (Fit (putsL N Lxs L).1 N) := Lib.hid ⟨puts_len N hN1 Lxs L hLN, puts_uniq N Lxs L hU.out⟩
                have hcm : Hid (∀ j, (putsL N (Lxs.take j) L).2 ≤ 40) := Lib.hid fun j => Nat.le_trans (puts_cnt N _ L) (by rw [List.length_take, hLl.out]; omega)
                have HPU : Hid (∀ wx L2, Tw w wx [(ob, opO p)] b b2 N L L2 → Calls Try.prog 49 #[.pointer (some ⟨b, 0, none⟩), .slice LA Ln Lc] wx fun e w' => e = .returned (.int .i64 ((putsL N Lxs L).2 : Int)) ∧ Tw w w' [(ob, opO p)] b b2 N (putsL N Lxs L).1 L2) := Lib.hid fun wx L2 h =>
                  tw_puts h hLN hN1 (by omega) LA Ln Lc Lxs (hls.out.1.below h.bel) hls.out.2.2.1
                clear k0
                go_wp2_with fail
                clear c0 c1 c2 c3 c4
                go_loopg [10, 68] Ln (fun gk u i wz => ∃ j : Nat, gk = Ln - j ∧ j ≤ Ln ∧ i = .int .i64 j ∧ u = .int .i64 ((putsL N (Lxs.take j) L).2 : Int) ∧ Tw w wz [(ob, opO p)] b b2 N L (putsL N (Lxs.take j) L).1)
                case atStart => exact ⟨0, rfl, by omega, rfl, rfl, HC4.out⟩
                case round =>
                  obtain ⟨j, rfl, hj, rfl, rfl, hc5⟩ := hrel
                  by_cases hlt2 : j < Ln
                  · have hjl : j < Lxs.length := by have := hLl.out; omega
                    obtain ⟨x, hx⟩ : ∃ x : Ent, Hid (Lxs[j] = x) := ⟨_, Lib.hid rfl⟩
                    obtain ⟨xb0, xo, hA, d0, d1, d2, d3⟩ := ent_at (hls.out.1.below hc5.bel) j hlt2 hjl x hx.out
                    subst hA
                    have hL1 : (putsL N (Lxs.take j) L).1.length ≤ N := puts_len N hN1 _ L hLN
                    have htk : Lxs.take (j + 1) = Lxs.take j ++ [x] := by rw [List.take_add_one, List.getElem?_eq_getElem hjl, hx.out]; rfl
                    have hnx := puts_snoc N (Lxs.take j) x L
                    have hnc := puts_snoc2 N (Lxs.take j) x L
                    rw [← htk] at hnx hnc
                    have hmj := hcm.out j
                    obtain ⟨L1, hL1e⟩ : ∃ L1, (putsL N (Lxs.take j) L).1 = L1 := ⟨_, rfl⟩
                    obtain ⟨m, hm⟩ : ∃ m, (putsL N (Lxs.take j) L).2 = m := ⟨_, rfl⟩
                    rw [hL1e] at hc5 hL1 hnx hnc
                    rw [hm] at hnc hmj ⊢
                    have hpd := tw_dput (hc5.below (below_alloc wr (entO x))) hL1 hN1 (by omega) x
                    obtain ⟨tk, htke⟩ : ∃ tk, (putL N x L1).2 = tk := ⟨_, rfl⟩
                    obtain ⟨L3, hL3⟩ : ∃ L3, (putL N x L1).1 = L3 := ⟨_, rfl⟩
                    rw [htke, hL3] at hpd
                    rw [hL3] at hnx
                    rw [htke] at hnc
                    have HNX := Lib.hid hnx
                    have HNC := Lib.hid hnc
                    have hpd2 := Lib.hid hpd
                    clear hc5 hL1 hL1e hm hpd hnx hnc htke hL3 hx htk
                    obtain ⟨x1, x2, x3, x4⟩ := x
                    dsimp only [aggE, entO] at hpd2 d0 d1 d2 d3
                    cases tk with
                    | true =>
                      go_wp2_with fail
                      refine hpd2.out.mono ?_
                      rintro e w6 ⟨rfl, hc6⟩
                      have HC6 := Lib.hid hc6
                      clear hc6
                      go_wp2_with fail
                      go_roundg (Ln - (j + 1))
                      case measure => omega
                      case rel => exact ⟨j + 1, rfl, by omega, by go_num, by rw [HNC.out]; go_num, by rw [HNX.out]; exact HC6.out⟩
                    | false =>
                      go_wp2_with fail
                      refine hpd2.out.mono ?_
                      rintro e w6 ⟨rfl, hc6⟩
                      have HC6 := Lib.hid hc6
                      clear hc6
                      go_wp2_with fail
                      go_roundg (Ln - (j + 1))
                      case measure => omega
                      case rel => exact ⟨j + 1, rfl, by omega, by go_num, by rw [HNC.out]; simp, by rw [HNX.out]; exact HC6.out⟩
                  · obtain rfl : j = Ln := by omega
                    rw [List.take_of_length_le (by rw [hLl.out]; exact Nat.le_refl _)] at hc5 ⊢
                    obtain ⟨c0, c1, c2, c3, c4⟩ := HCE.out _ _ _ hc5
                    have HP5 := Lib.hid (HPU.out _ _ hc5)
                    obtain ⟨cF, hcF⟩ : ∃ cF, (putsL N Lxs L).2 = cF := ⟨_, rfl⟩
                    rw [hcF] at HP5 ⊢
                    clear hc5 hcF
                    go_wp2_with fail
                    refine HP5.out.mono ?_
                    rintro e w6 ⟨rfl, hc6⟩
                    have HC6 := Lib.hid hc6
                    clear hc6 c0 c1 c2 c3 c4
                    go_wp2_with fail
                    go_meet
                    exact ⟨_, HC6.out, hFt⟩
            · have e0 : (ok == 0) = false := by simpa using k0
              by_cases k1 : ok = 1
              · have e1 : (ok == 1) = true := by simpa using k1
                as_aux_lemma =>
                  obtain ⟨⟨⟨y1, y2, y3, y4⟩, t⟩, hp⟩ : ∃ r, peekL oc L = r := ⟨_, rfl⟩
                  have hge := tw_get HC4.out (by omega) oc
                  rw [hp] at hge
                  have hFt : Hid (Fit (getL oc L) N) := Lib.hid ⟨by rw [len_get]; exact hLN, uniq_get hU.out⟩
                  have HDG : Hid (∀ wx pr, Tw w wx pr b b2 N (getL oc L) L → Calls Try.prog 57 #[.pointer (some ⟨b2, 0, none⟩), .int .i64 oc] wx fun e w' => e = .returned (.tuple #[aggE (y1, y2, y3, y4), .bool t]) ∧ Tw w w' pr b b2 N (getL oc L) (getL oc L)) := Lib.hid fun wx pr h => by
                    have := tw_dget h (by omega) oc
                    rw [hp] at this
                    exact this
                  dsimp only [aggE] at hge HDG
                  have HT := Lib.hid hge
                  have heq := de_eq y1 y2 y3 y4
                  have hg := de_guard
                  clear k0 k1 hge hp
                  go_wp2_with fail
                  refine HT.out.mono ?_
                  rintro e w5 ⟨rfl, hc5⟩
                  clear c0 c1 c2 c3 c4
                  obtain ⟨xb, hxb⟩ : ∃ xb, Hid (w5.heap.size = xb) := ⟨_, Lib.hid rfl⟩
                  obtain ⟨W5, hW5⟩ : ∃ W5, Hid (w5.alloc (entO (y1, y2, y3, y4)) = W5) := ⟨_, Lib.hid rfl⟩
                  obtain ⟨y', HY'⟩ : ∃ y' : Ent, Hid (y' = (y1, y2, y3, y4)) := ⟨_, Lib.hid rfl⟩
                  have hcW := hc5.alloc (entO (y1, y2, y3, y4))
                  rw [hW5.out, hxb.out, ← HY'.out] at hcW
                  obtain ⟨c0, c1, c2, c3, c4⟩ := HCE.out _ _ _ (hcW.sub (pr' := [(ob, opO p)]) (fun q hq => List.mem_cons_of_mem _ hq))
                  have HD5 := Lib.hid (HDG.out _ _ hcW)
                  clear hc5 hcW
                  unfold entO at hW5
                  dsimp only at hW5
                  go_wp2_with (rw [hW5.out, hxb.out])
                  refine HD5.out.mono ?_
                  rintro e w6 ⟨rfl, hc6⟩
                  clear c0 c1 c2 c3 c4
                  obtain ⟨a0', a1', a2', a3'⟩ := ent_cells (hc6.pr (xb, entO y') (by simp)).1
                  rw [HY'.out] at a0' a1' a2' a3'
                  have a0 : ∀ o, (w6.alloc o).cell? ⟨xb, 0, none⟩ = some (.int .i64 y1) := fun o => cell_below (below_alloc w6 o) a0'
                  have a1 : ∀ o, (w6.alloc o).cell? ⟨xb, 1, none⟩ = some (.int .i64 y2) := fun o => cell_below (below_alloc w6 o) a1'
                  have a2 : ∀ o, (w6.alloc o).cell? ⟨xb, 2, none⟩ = some (.int .i64 y3) := fun o => cell_below (below_alloc w6 o) a2'
                  have a3 : ∀ o, (w6.alloc o).cell? ⟨xb, 3, none⟩ = some (.int .i64 y4) := fun o => cell_below (below_alloc w6 o) a3'
                  have HC8 : Hid (Tw w (w6.alloc (.cells #[.int .i64 y1, .int .i64 y2, .int .i64 y3, .int .i64 y4] DE)) [(ob, opO p)] b b2 N (getL oc L) (getL oc L)) := Lib.hid ((hc6.below (below_alloc _ _)).sub (fun q hq => List.mem_cons_of_mem _ hq))
                  clear hc6 a0' a1' a2' a3'
                  cases t
                  all_goals
                    go_wp2_with fail
                    go_meet
                    exact ⟨_, HC8.out, hFt⟩
              · have e1 : (ok == 1) = false := by simpa using k1
                by_cases k2 : ok = 2
                · have e2 : (ok == 2) = true := by simpa using k2
                  as_aux_lemma =>
                    obtain ⟨⟨⟨y1, y2, y3, y4⟩, t⟩, hp⟩ : ∃ r, peekL oc L = r := ⟨_, rfl⟩
                    have hpk := tw_peek HC4.out (by omega) oc
                    rw [hp] at hpk
                    have hFt : Hid (Fit L N) := Lib.hid ⟨hLN, hU.out⟩
                    obtain ⟨fd, hfd⟩ : ∃ fd, fnd oc L = fd := ⟨_, rfl⟩
                    have HATT : Hid (∀ wx, Tw w wx [(ob, opO p)] b b2 N L L → Calls Try.prog 58 #[.pointer (some ⟨b2, 0, none⟩), .int .i64 oc] wx fun e w' => e = .returned (.int .i64 fd) ∧ wx = w') := Lib.hid fun wx h => by
                      rw [← hfd]; exact tw_at h (by omega) oc
                    -- what is read of the document's row
                    have RD : Hid (∀ wx, Tw w wx [(ob, opO p)] b b2 N L L → t = true → ∃ i : Nat, fd = i ∧ ∃ A0 cc0 ab0 ao0, wx.cell? ⟨b2, 1, none⟩ = some (.slice A0 L.length cc0) ∧ i < L.length ∧ L.length ≤ 16 ∧ A0 = some ⟨ab0, ao0, none⟩ ∧ wx.cell? ⟨ab0, ao0 + i * 4, none⟩ = some (.int .i64 y1) ∧ wx.cell? ⟨ab0, ao0 + i * 4 + 1, none⟩ = some (.int .i64 y2) ∧ wx.cell? ⟨ab0, ao0 + i * 4 + 2, none⟩ = some (.int .i64 y3) ∧ wx.cell? ⟨ab0, ao0 + i * 4 + 3, none⟩ = some (.int .i64 y4)) := Lib.hid fun wx h ht => by
                      subst ht
                      cases hl : look oc L with
                      | none => simp [peekL, hl] at hp
                      | some i =>
                        obtain ⟨hi, -, -⟩ := look_some hl
                        have hei : L[i] = (y1, y2, y3, y4) := by
                          simp only [peekL, hl, getD_at hi, Prod.mk.injEq, and_true] at hp
                          exact hp
                        obtain ⟨A0, cc0, hcd, hrd⟩ := tw_row h
                        obtain ⟨ab0, ao0, hA0, q0, q1, q2, q3⟩ := ent_at hrd i hi hi _ hei
                        exact ⟨i, by rw [← hfd]; simp [fnd, hl], A0, cc0, ab0, ao0, hcd, hi, by omega, hA0, q0, q1, q2, q3⟩
                    have hno : Hid (t = false → fd = -1 ∧ (y1, y2, y3, y4) = z0) := Lib.hid fun ht => by
                      subst ht
                      cases hl : look oc L with
                      | none =>
                        simp only [peekL, hl, Prod.mk.injEq, and_true] at hp
                        exact ⟨by rw [← hfd]; simp [fnd, hl], hp.symm⟩
                      | some i => simp [peekL, hl] at hp
                    dsimp only [aggE] at hpk
                    have HPK := Lib.hid hpk
                    clear k0 k1 k2 hpk hp hfd
                    go_wp2_with fail
                    refine HPK.out.mono ?_
                    rintro e w5 ⟨rfl, hc5⟩
                    clear c0 c1 c2 c3 c4
                    obtain ⟨xb, hxb⟩ : ∃ xb, Hid (w5.heap.size = xb) := ⟨_, Lib.hid rfl⟩
                    obtain ⟨W5, hW5⟩ : ∃ W5, Hid (w5.alloc (entO (y1, y2, y3, y4)) = W5) := ⟨_, Lib.hid rfl⟩
                    have hcW0 := hc5.alloc (entO (y1, y2, y3, y4))
                    rw [hW5.out, hxb.out] at hcW0
                    obtain ⟨a0, a1, a2, a3⟩ := ent_cells (hcW0.pr (xb, entO (y1, y2, y3, y4)) (by simp)).1
                    have hcW := hcW0.sub (pr' := [(ob, opO p)]) (fun q hq => List.mem_cons_of_mem _ hq)
                    obtain ⟨c0, c1, c2, c3, c4⟩ := HCE.out _ _ _ hcW
                    have HA5 := Lib.hid (HATT.out _ hcW)
                    have HCW := Lib.hid hcW
                    clear hc5 hcW hcW0
                    unfold entO at hW5
                    dsimp only at hW5 a0 a1 a2 a3
                    go_wp2_with (rw [hW5.out, hxb.out])
                    refine HA5.out.mono ?_
                    rintro e w6 ⟨rfl, rfl⟩
                    clear c0 c1 c2 c3 c4
                    cases t with
                    | true =>
                      obtain ⟨i, rfl, A0, cc0, ab0, ao0, hcd, hil, hl16, hA0, q0, q1, q2, q3⟩ := RD.out _ HCW.out rfl
                      subst hA0
                      have heq := de_eq y1 y2 y3 y4
                      have hg := de_guard
                      obtain ⟨ln0, hln0⟩ : ∃ x, L.length = x := ⟨_, rfl⟩
                      rw [hln0] at hcd hil hl16
                      clear hln0
                      go_wp2_with fail
                      go_quiet (fail)
                      clear hcd q0 q1 q2 q3 a0 a1 a2 a3
                      go_wp2_with fail
                      go_meet
                      exact ⟨_, HCW.out.below (below_drewN _ _), hFt⟩
                    | false =>
                      obtain ⟨rfl, hz⟩ := hno.out rfl
                      simp only [z0, Prod.mk.injEq] at hz
                      obtain ⟨rfl, rfl, rfl, rfl⟩ := hz
                      have heq := en_eq 0 0 0 0
                      have hg := en_guard
                      go_wp2_with fail
                      go_quiet (fail)
                      clear a0 a1 a2 a3
                      go_wp2_with fail
                      go_meet
                      exact ⟨_, HCW.out.below (below_drewN _ _), hFt⟩
                · have e2 : (ok == 2) = false := by simpa using k2
                  by_cases k3 : ok = 3
                  · have e3 : (ok == 3) = true := by simpa using k3
                    obtain ⟨⟨⟨y1, y2, y3, y4⟩, t⟩, hp⟩ : ∃ r, peekL oc L = r := ⟨_, rfl⟩
                    obtain ⟨fd, hfd⟩ : ∃ fd, fnd oc L = fd := ⟨_, rfl⟩
                    have hat := tw_at HC4.out (by omega) oc
                    rw [hfd] at hat
                    have HAT4 := Lib.hid hat
                    obtain ⟨LX, hLX⟩ : ∃ LX, (staleL oc ox L).1 = LX := ⟨_, rfl⟩
                    have hFt : Hid (Fit LX N) := Lib.hid (by rw [← hLX]; exact ⟨Nat.le_trans len_stale hLN, uniq_stale hU.out⟩)
                    obtain ⟨sb, hsb⟩ : ∃ sb, (staleL oc ox L).2 = sb := ⟨_, rfl⟩
                    have HSTL : Hid (∀ wx L2, Tw w wx [(ob, opO p)] b b2 N L L2 → Calls Try.prog 54 #[.pointer (some ⟨b, 0, none⟩), .int .i64 oc, .int .i64 ox] wx fun e w' => e = .returned (.bool sb) ∧ Tw w w' [(ob, opO p)] b b2 N LX L2) := Lib.hid fun wx L2 h => by
                      rw [← hLX, ← hsb]; exact tw_stale h (by omega) oc ox
                    have hsl := stale_len (c := oc) (v := ox) hU.out
                    have hst : staleL oc ox L = if t = true ∧ y2 < ox then (dropL [oc] L, decide ((L.length : Int) - (dropL [oc] L).length = 1)) else (L, false) := by unfold staleL; rw [hp]
                    rw [hp, hsb] at hsl
                    dsimp only at hsl
                    cases t with
                    | false =>
                      have hfd1 : fd = -1 := by
                        cases hl : look oc L with
                        | none => rw [← hfd]; simp [fnd, hl]
                        | some i => simp [peekL, hl] at hp
                      have hsb1 : sb = false := by rw [hsl]; simp
                      rw [if_neg (by simp), ] at hst
                      have hLX1 : LX = L := by rw [← hLX, hst]
                      subst hfd1
                      subst hsb1
                      subst hLX1
                      clear k0 k1 k2 k3 hat hp hfd hst hsb hsl hLX
                      go_wp2_with fail
                      refine HAT4.out.mono ?_
                      rintro e w5 ⟨rfl, rfl⟩
                      go_wp2_with fail
                      go_quiet (fail)
                      clear c0 c1 c2 c3 c4
                      have HC5 := Lib.hid (HC4.out.below (below_drewN nq W))
                      obtain ⟨c0, c1, c2, c3, c4⟩ := HCE.out _ _ _ HC5.out
                      have HST2 := Lib.hid (HSTL.out _ _ HC5.out)
                      go_wp2_with fail
                      refine HST2.out.mono ?_
                      rintro e w6 ⟨rfl, hc6⟩
                      have HC6 := Lib.hid hc6
                      clear hc6 c0 c1 c2 c3 c4
                      go_wp2_with fail
                      go_meet
                      exact ⟨_, HC6.out, hFt⟩
                    | true =>
                      obtain ⟨ij, hl⟩ : ∃ i, look oc L = some i := by
                        cases hl : look oc L with
                        | none => simp [peekL, hl] at hp
                        | some i => exact ⟨i, rfl⟩
                      obtain ⟨hi, -, -⟩ := look_some hl
                      have hei : L[ij] = (y1, y2, y3, y4) := by
                        simp only [peekL, hl, getD_at hi, Prod.mk.injEq, and_true] at hp
                        exact hp
                      have hfd1 : fd = ij := by rw [← hfd]; simp [fnd, hl]
                      obtain ⟨A0, cc0, hcd, hrd⟩ := tw_row HC4.out
                      obtain ⟨ab0, ao0, hA0, q0, q1, q2, q3⟩ := ent_at hrd ij hi hi _ hei
                      subst hA0
                      subst hfd1
                      obtain ⟨ln0, hln0⟩ : ∃ x, L.length = x := ⟨_, rfl⟩
                      rw [hln0] at hcd hi
                      have hl16 : ln0 ≤ 16 := by omega
                      by_cases hlt3 : y2 < ox
                      · rw [if_pos ⟨rfl, hlt3⟩] at hst
                        have hd : decide (y2 < ox) = true := by simpa using hlt3
                        have hsb1 : sb = true := by rw [hsl]; simp [hlt3]
                        have hLXe : ddropL oc L = (LX, true) := by rw [← hLX, hst]; simp [ddropL, hl, drop_one hU.out hl]
                        have HDD : Hid (∀ wx, Tw w wx [(ob, opO p)] b b2 N L L → Calls Try.prog 59 #[.pointer (some ⟨b2, 0, none⟩), .int .i64 oc] wx fun e w' => e = .returned (.bool true) ∧ Tw w w' [(ob, opO p)] b b2 N L LX) := Lib.hid fun wx h => by
                          have := tw_ddrop h (by omega) oc
                          rw [hLXe] at this
                          exact this
                        subst hsb1
                        have HS0 : Hid (Tw w W.drew [(ob, opO p)] b b2 N L L ∧ (W.drew.cell? ⟨b2, 1, none⟩ = some (.slice (some ⟨ab0, ao0, none⟩) ln0 cc0) ∧ W.drew.cell? ⟨ab0, ao0 + ij * 4 + 1, none⟩ = some (.int .i64 y2))) := Lib.hid ⟨HC4.out.below (below_drewN 1 W), hcd, q1⟩
                        clear k0 k1 k2 k3 hat hp hfd hst hsb hsl hLX hl hei hrd hln0 q0 q1 q2 q3 hLXe hlt3 hcd
                        go_wp2_with fail
                        refine HAT4.out.mono ?_
                        rintro e w5 ⟨rfl, rfl⟩
                        go_wp2_with fail
                        have hS0 := HS0.out
                        clear c0 c1 c2 c3 c4
                        refine wp_region_done (fun d => fun W => Tw w W [(ob, opO p)] b b2 N L (if (d 19) then LX else L) ∧ ((d 19) = false → W.cell? ⟨b2, 1, none⟩ = some (.slice (some ⟨ab0, ao0, none⟩) ln0 cc0) ∧ W.cell? ⟨ab0, ao0 + ij * 4 + 1, none⟩ = some (.int .i64 y2))) (fun _ _ => True) (fun k u v => (k = 19 → (fun _ _ => True) u v) ∧ (¬ k = 19 → (fun _ _ => True) u v)) (fun a i => match i with
                            | 0 => (fun v _ => v = .int .i64 (ij : Int))
                            | 1 => (fun v _ => v = .bool true)
                            | 2 => (fun v _ => v = .bool true)
                            | 3 => (fun v _ => v = .pointer (some ⟨b2, 0, none⟩))
                            | 4 => (fun v _ => v = .pointer (some ⟨b2, 0, none⟩))
                            | 5 => (fun v _ => v = .pointer (some ⟨b2, 1, none⟩))
                            | 6 => (fun v _ => v = .slice (some ⟨ab0, ao0, none⟩) ln0 cc0)
                            | 7 => (fun v _ => v = .int .i64 (ij : Int))
                            | 8 => (fun v _ => v = .pointer (some ⟨ab0, ao0 + ij * 4, none⟩))
                            | 9 => (fun v _ => v = .pointer (some ⟨ab0, ao0 + ij * 4 + 1, none⟩))
                            | 10 => (fun v _ => v = .int .i64 y2)
                            | 11 => (fun v _ => v = .pointer (some ⟨ob, 2, none⟩))
                            | 12 => (fun v _ => v = .int .i64 ox)
                            | 13 => (fun v _ => v = .bool true)
                            | 14 => (fun v _ => v = .bool true)
                            | 15 => (fun v _ => v = .bool true)
                            | 16 => (fun v _ => v = .pointer (some ⟨b2, 0, none⟩))
                            | 17 => (fun v _ => v = .pointer (some ⟨ob, 1, none⟩))
                            | 18 => (fun v _ => v = .int .i64 oc)
                            | 19 => (fun v _ => v = .bool true)
                            | 20 => (fun v _ => v = .bool true)
                            | 21 => (fun v _ => v = .bool true)
                            | _ => (fun _ _ => True)) #[0, 1, 3, 7, 15, 31, 63, 7, 255, 511, 1023, 7, 2055, 8191, 16383, 32767, 65535, 65535, 196607, 524287, 1048575, 2097151] #[0, 1, 2, 4, 12, 20, 36, 4, 196, 260, 516, 4, 2052, 5124, 8196, 16384, 32768, 32768, 163840, 360448, 557056, 1048576] 4194303 (by kernel_rfl) 22 rfl (fun m hm => by subst hm; kernel_rfl) (by kernel_rfl) (fun w => trivial) (fun u v w h1 h2 => trivial) ?_ ?_ (⟨hS0.1, fun _ => hS0.2⟩) ?_ ?_
                        · intro k u v hk hr
                          by_cases hs19 : k = 19
                          · have h := hr.1 hs19; exact trivial
                          have h := hr.2 hs19; exact trivial
                        · intro i hi
                          rcases (by omega : i = 0 ∨ i = 1 ∨ i = 2 ∨ i = 3 ∨ i = 4 ∨ i = 5 ∨ i = 6 ∨ i = 7 ∨ i = 8 ∨ i = 9 ∨ i = 10 ∨ i = 11 ∨ i = 12 ∨ i = 13 ∨ i = 14 ∨ i = 15 ∨ i = 16 ∨ i = 17 ∨ i = 18 ∨ i = 19 ∨ i = 20 ∨ i = 21) with rfl | rfl | rfl | rfl | rfl | rfl | rfl | rfl | rfl | rfl | rfl | rfl | rfl | rfl | rfl | rfl | rfl | rfl | rfl | rfl | rfl | rfl
                          · intro k hk y hy hyt v w w' h hr
                            exact h
                          · intro k hk y hy hyt v w w' h hr
                            exact h
                          · intro k hk y hy hyt v w w' h hr
                            exact h
                          · intro k hk y hy hyt v w w' h hr
                            exact h
                          · intro k hk y hy hyt v w w' h hr
                            exact h
                          · intro k hk y hy hyt v w w' h hr
                            exact h
                          · intro k hk y hy hyt v w w' h hr
                            exact h
                          · intro k hk y hy hyt v w w' h hr
                            exact h
                          · intro k hk y hy hyt v w w' h hr
                            exact h
                          · intro k hk y hy hyt v w w' h hr
                            exact h
                          · intro k hk y hy hyt v w w' h hr
                            exact h
                          · intro k hk y hy hyt v w w' h hr
                            exact h
                          · intro k hk y hy hyt v w w' h hr
                            exact h
                          · intro k hk y hy hyt v w w' h hr
                            exact h
                          · intro k hk y hy hyt v w w' h hr
                            exact h
                          · intro k hk y hy hyt v w w' h hr
                            exact h
                          · intro k hk y hy hyt v w w' h hr
                            exact h
                          · intro k hk y hy hyt v w w' h hr
                            exact h
                          · intro k hk y hy hyt v w w' h hr
                            exact h
                          · intro k hk y hy hyt v w w' h hr
                            exact h
                          · intro k hk y hy hyt v w w' h hr
                            exact h
                          · intro k hk y hy hyt v w w' h hr
                            exact h
                        · intro i hi
                          rcases (by omega : i = 0 ∨ i = 1 ∨ i = 2 ∨ i = 3 ∨ i = 4 ∨ i = 5 ∨ i = 6 ∨ i = 7 ∨ i = 8 ∨ i = 9 ∨ i = 10 ∨ i = 11 ∨ i = 12 ∨ i = 13 ∨ i = 14 ∨ i = 15 ∨ i = 16 ∨ i = 17 ∨ i = 18 ∨ i = 19 ∨ i = 20 ∨ i = 21) with rfl | rfl | rfl | rfl | rfl | rfl | rfl | rfl | rfl | rfl | rfl | rfl | rfl | rfl | rfl | rfl | rfl | rfl | rfl | rfl | rfl | rfl
                          · -- 0: Op.move (Operand.tmp 20)
                            intro l hl vs W dn e1 e2 e3 hS hR hp
                            have f19 : dn 19 = false := e3 19 (by kernel_rfl)
                            replace hS : (fun W => Tw w W [(ob, opO p)] b b2 N L (if (dn 19) then LX else L) ∧ ((dn 19) = false → W.cell? ⟨b2, 1, none⟩ = some (.slice (some ⟨ab0, ao0, none⟩) ln0 cc0) ∧ W.cell? ⟨ab0, ao0 + ij * 4 + 1, none⟩ = some (.int .i64 y2))) W := hS
                            rw [f19] at hS
                            have g19 : (dn 19 || ((0 : Nat) == 19)) = false := by rw [f19]; rfl
                            refine OpGoal.imp (S1 := fun W => Tw w W [(ob, opO p)] b b2 N L (if false then LX else L) ∧ (false = false → W.cell? ⟨b2, 1, none⟩ = some (.slice (some ⟨ab0, ao0, none⟩) ln0 cc0) ∧ W.cell? ⟨ab0, ao0 + ij * 4 + 1, none⟩ = some (.int .i64 y2))) (fun W' h => ?_) ?_
                            · show (fun W => Tw w W [(ob, opO p)] b b2 N L (if (dn 19 || ((0 : Nat) == 19)) then LX else L) ∧ ((dn 19 || ((0 : Nat) == 19)) = false → W.cell? ⟨b2, 1, none⟩ = some (.slice (some ⟨ab0, ao0, none⟩) ln0 cc0) ∧ W.cell? ⟨ab0, ao0 + ij * 4 + 1, none⟩ = some (.int .i64 y2))) W'
                              rw [g19]
                              exact h
                            clear g19 e1 e2 e3
                            obtain rfl : l = [] := hl.symm.trans (by kernel_rfl)
                            clear hp hl
                            refine opgoal (_) (some 154) rfl rfl fun K hK => ?_
                            refine Runs.mk ?_
                            simp only [putAll]
                            go_simp
                            refine hK _ _ ?_ hS ⟨fun h => absurd h (by decide), fun h19 => ((fun w => trivial) W)⟩ _ rfl rfl
                            first | rfl | go_simp | simp
                          · -- 1: Op.binOp BinOp.geq 3 (Operand.tmp 154) (Operand.const (Value.int IntKind.i64 0)) 3
                            intro l hl vs W dn e1 e2 e3 hS hR hp
                            have f19 : dn 19 = false := e3 19 (by kernel_rfl)
                            replace hS : (fun W => Tw w W [(ob, opO p)] b b2 N L (if (dn 19) then LX else L) ∧ ((dn 19) = false → W.cell? ⟨b2, 1, none⟩ = some (.slice (some ⟨ab0, ao0, none⟩) ln0 cc0) ∧ W.cell? ⟨ab0, ao0 + ij * 4 + 1, none⟩ = some (.int .i64 y2))) W := hS
                            rw [f19] at hS
                            have g19 : (dn 19 || ((1 : Nat) == 19)) = false := by rw [f19]; rfl
                            refine OpGoal.imp (S1 := fun W => Tw w W [(ob, opO p)] b b2 N L (if false then LX else L) ∧ (false = false → W.cell? ⟨b2, 1, none⟩ = some (.slice (some ⟨ab0, ao0, none⟩) ln0 cc0) ∧ W.cell? ⟨ab0, ao0 + ij * 4 + 1, none⟩ = some (.int .i64 y2))) (fun W' h => ?_) ?_
                            · show (fun W => Tw w W [(ob, opO p)] b b2 N L (if (dn 19 || ((1 : Nat) == 19)) then LX else L) ∧ ((dn 19 || ((1 : Nat) == 19)) = false → W.cell? ⟨b2, 1, none⟩ = some (.slice (some ⟨ab0, ao0, none⟩) ln0 cc0) ∧ W.cell? ⟨ab0, ao0 + ij * 4 + 1, none⟩ = some (.int .i64 y2))) W'
                              rw [g19]
                              exact h
                            clear g19 e1 e2 e3
                            obtain rfl : l = [(0, 154)] := hl.symm.trans (by kernel_rfl)
                            have p0 : vs 0 = _ := hp 0 (by decide) (by decide)
                            clear hp hl
                            refine opgoal (_) (some 155) rfl rfl fun K hK => ?_
                            refine Runs.mk ?_
                            simp only [putAll]
                            go_simp
                            refine hK _ _ ?_ hS ⟨fun h => absurd h (by decide), fun h19 => ((fun w => trivial) W)⟩ _ rfl rfl
                            first | rfl | go_simp | simp
                          · -- 2: Op.move (Operand.tmp 155)
                            intro l hl vs W dn e1 e2 e3 hS hR hp
                            have f19 : dn 19 = false := e3 19 (by kernel_rfl)
                            replace hS : (fun W => Tw w W [(ob, opO p)] b b2 N L (if (dn 19) then LX else L) ∧ ((dn 19) = false → W.cell? ⟨b2, 1, none⟩ = some (.slice (some ⟨ab0, ao0, none⟩) ln0 cc0) ∧ W.cell? ⟨ab0, ao0 + ij * 4 + 1, none⟩ = some (.int .i64 y2))) W := hS
                            rw [f19] at hS
                            have g19 : (dn 19 || ((2 : Nat) == 19)) = false := by rw [f19]; rfl
                            refine OpGoal.imp (S1 := fun W => Tw w W [(ob, opO p)] b b2 N L (if false then LX else L) ∧ (false = false → W.cell? ⟨b2, 1, none⟩ = some (.slice (some ⟨ab0, ao0, none⟩) ln0 cc0) ∧ W.cell? ⟨ab0, ao0 + ij * 4 + 1, none⟩ = some (.int .i64 y2))) (fun W' h => ?_) ?_
                            · show (fun W => Tw w W [(ob, opO p)] b b2 N L (if (dn 19 || ((2 : Nat) == 19)) then LX else L) ∧ ((dn 19 || ((2 : Nat) == 19)) = false → W.cell? ⟨b2, 1, none⟩ = some (.slice (some ⟨ab0, ao0, none⟩) ln0 cc0) ∧ W.cell? ⟨ab0, ao0 + ij * 4 + 1, none⟩ = some (.int .i64 y2))) W'
                              rw [g19]
                              exact h
                            clear g19 e1 e2 e3
                            obtain rfl : l = [(0, 154), (1, 155)] := hl.symm.trans (by kernel_rfl)
                            have p1 : vs 1 = _ := hp 1 (by decide) (by decide)
                            clear hp hl
                            refine opgoal (_) (some 156) rfl rfl fun K hK => ?_
                            refine Runs.mk ?_
                            simp only [putAll]
                            go_simp
                            refine hK _ _ ?_ hS ⟨fun h => absurd h (by decide), fun h19 => ((fun w => trivial) W)⟩ _ rfl rfl
                            first | rfl | go_simp | simp
                          · -- 3: Op.move (Operand.tmp 7)  [(2, 'true')]
                            intro l hl vs W dn e1 e2 e3 hS hR hp
                            have f19 : dn 19 = false := e3 19 (by kernel_rfl)
                            replace hS : (fun W => Tw w W [(ob, opO p)] b b2 N L (if (dn 19) then LX else L) ∧ ((dn 19) = false → W.cell? ⟨b2, 1, none⟩ = some (.slice (some ⟨ab0, ao0, none⟩) ln0 cc0) ∧ W.cell? ⟨ab0, ao0 + ij * 4 + 1, none⟩ = some (.int .i64 y2))) W := hS
                            rw [f19] at hS
                            have g19 : (dn 19 || ((3 : Nat) == 19)) = false := by rw [f19]; rfl
                            refine OpGoal.imp (S1 := fun W => Tw w W [(ob, opO p)] b b2 N L (if false then LX else L) ∧ (false = false → W.cell? ⟨b2, 1, none⟩ = some (.slice (some ⟨ab0, ao0, none⟩) ln0 cc0) ∧ W.cell? ⟨ab0, ao0 + ij * 4 + 1, none⟩ = some (.int .i64 y2))) (fun W' h => ?_) ?_
                            · show (fun W => Tw w W [(ob, opO p)] b b2 N L (if (dn 19 || ((3 : Nat) == 19)) then LX else L) ∧ ((dn 19 || ((3 : Nat) == 19)) = false → W.cell? ⟨b2, 1, none⟩ = some (.slice (some ⟨ab0, ao0, none⟩) ln0 cc0) ∧ W.cell? ⟨ab0, ao0 + ij * 4 + 1, none⟩ = some (.int .i64 y2))) W'
                              rw [g19]
                              exact h
                            clear g19 e1 e2 e3
                            obtain rfl : l = [(0, 154), (1, 155), (2, 156)] := hl.symm.trans (by kernel_rfl)
                            have p2 : vs 2 = _ := hp 2 (by decide) (by decide)
                            clear hp hl
                            refine opgoal (_) (some 157) rfl rfl fun K hK => ?_
                            refine Runs.mk ?_
                            simp only [putAll]
                            go_simp
                            refine hK _ _ ?_ hS ⟨fun h => absurd h (by decide), fun h19 => ((fun w => trivial) W)⟩ _ rfl rfl
                            first | rfl | go_simp | simp
                          · -- 4: Op.nilCheck (Operand.tmp 157)  [(2, 'true')]
                            intro l hl vs W dn e1 e2 e3 hS hR hp
                            have f19 : dn 19 = false := e3 19 (by kernel_rfl)
                            replace hS : (fun W => Tw w W [(ob, opO p)] b b2 N L (if (dn 19) then LX else L) ∧ ((dn 19) = false → W.cell? ⟨b2, 1, none⟩ = some (.slice (some ⟨ab0, ao0, none⟩) ln0 cc0) ∧ W.cell? ⟨ab0, ao0 + ij * 4 + 1, none⟩ = some (.int .i64 y2))) W := hS
                            rw [f19] at hS
                            have g19 : (dn 19 || ((4 : Nat) == 19)) = false := by rw [f19]; rfl
                            refine OpGoal.imp (S1 := fun W => Tw w W [(ob, opO p)] b b2 N L (if false then LX else L) ∧ (false = false → W.cell? ⟨b2, 1, none⟩ = some (.slice (some ⟨ab0, ao0, none⟩) ln0 cc0) ∧ W.cell? ⟨ab0, ao0 + ij * 4 + 1, none⟩ = some (.int .i64 y2))) (fun W' h => ?_) ?_
                            · show (fun W => Tw w W [(ob, opO p)] b b2 N L (if (dn 19 || ((4 : Nat) == 19)) then LX else L) ∧ ((dn 19 || ((4 : Nat) == 19)) = false → W.cell? ⟨b2, 1, none⟩ = some (.slice (some ⟨ab0, ao0, none⟩) ln0 cc0) ∧ W.cell? ⟨ab0, ao0 + ij * 4 + 1, none⟩ = some (.int .i64 y2))) W'
                              rw [g19]
                              exact h
                            clear g19 e1 e2 e3
                            obtain rfl : l = [(0, 154), (1, 155), (2, 156), (3, 157)] := hl.symm.trans (by kernel_rfl)
                            have p2 : vs 2 = _ := hp 2 (by decide) (by decide)
                            have p3 : vs 3 = _ := hp 3 (by decide) (by decide)
                            clear hp hl
                            refine opgoal (_) (some 158) rfl rfl fun K hK => ?_
                            refine Runs.mk ?_
                            simp only [putAll]
                            go_simp
                            refine hK _ _ ?_ hS ⟨fun h => absurd h (by decide), fun h19 => ((fun w => trivial) W)⟩ _ rfl rfl
                            first | rfl | go_simp | simp
                          · -- 5: Op.fieldAddr 92 (Operand.tmp 158) 1  [(2, 'true')]
                            intro l hl vs W dn e1 e2 e3 hS hR hp
                            have f19 : dn 19 = false := e3 19 (by kernel_rfl)
                            replace hS : (fun W => Tw w W [(ob, opO p)] b b2 N L (if (dn 19) then LX else L) ∧ ((dn 19) = false → W.cell? ⟨b2, 1, none⟩ = some (.slice (some ⟨ab0, ao0, none⟩) ln0 cc0) ∧ W.cell? ⟨ab0, ao0 + ij * 4 + 1, none⟩ = some (.int .i64 y2))) W := hS
                            rw [f19] at hS
                            have g19 : (dn 19 || ((5 : Nat) == 19)) = false := by rw [f19]; rfl
                            refine OpGoal.imp (S1 := fun W => Tw w W [(ob, opO p)] b b2 N L (if false then LX else L) ∧ (false = false → W.cell? ⟨b2, 1, none⟩ = some (.slice (some ⟨ab0, ao0, none⟩) ln0 cc0) ∧ W.cell? ⟨ab0, ao0 + ij * 4 + 1, none⟩ = some (.int .i64 y2))) (fun W' h => ?_) ?_
                            · show (fun W => Tw w W [(ob, opO p)] b b2 N L (if (dn 19 || ((5 : Nat) == 19)) then LX else L) ∧ ((dn 19 || ((5 : Nat) == 19)) = false → W.cell? ⟨b2, 1, none⟩ = some (.slice (some ⟨ab0, ao0, none⟩) ln0 cc0) ∧ W.cell? ⟨ab0, ao0 + ij * 4 + 1, none⟩ = some (.int .i64 y2))) W'
                              rw [g19]
                              exact h
                            clear g19 e1 e2 e3
                            obtain rfl : l = [(0, 154), (1, 155), (2, 156), (3, 157), (4, 158)] := hl.symm.trans (by kernel_rfl)
                            have p2 : vs 2 = _ := hp 2 (by decide) (by decide)
                            have p4 : vs 4 = _ := hp 4 (by decide) (by decide)
                            clear hp hl
                            refine opgoal (_) (some 159) rfl rfl fun K hK => ?_
                            refine Runs.mk ?_
                            simp only [putAll]
                            go_simp
                            refine hK _ _ ?_ hS ⟨fun h => absurd h (by decide), fun h19 => ((fun w => trivial) W)⟩ _ rfl rfl
                            first | rfl | go_simp | simp
                          · -- 6: Op.load 90 (Operand.tmp 159)  [(2, 'true')]
                            intro l hl vs W dn e1 e2 e3 hS hR hp
                            have f19 : dn 19 = false := e3 19 (by kernel_rfl)
                            replace hS : (fun W => Tw w W [(ob, opO p)] b b2 N L (if (dn 19) then LX else L) ∧ ((dn 19) = false → W.cell? ⟨b2, 1, none⟩ = some (.slice (some ⟨ab0, ao0, none⟩) ln0 cc0) ∧ W.cell? ⟨ab0, ao0 + ij * 4 + 1, none⟩ = some (.int .i64 y2))) W := hS
                            rw [f19] at hS
                            have g19 : (dn 19 || ((6 : Nat) == 19)) = false := by rw [f19]; rfl
                            refine OpGoal.imp (S1 := fun W => Tw w W [(ob, opO p)] b b2 N L (if false then LX else L) ∧ (false = false → W.cell? ⟨b2, 1, none⟩ = some (.slice (some ⟨ab0, ao0, none⟩) ln0 cc0) ∧ W.cell? ⟨ab0, ao0 + ij * 4 + 1, none⟩ = some (.int .i64 y2))) (fun W' h => ?_) ?_
                            · show (fun W => Tw w W [(ob, opO p)] b b2 N L (if (dn 19 || ((6 : Nat) == 19)) then LX else L) ∧ ((dn 19 || ((6 : Nat) == 19)) = false → W.cell? ⟨b2, 1, none⟩ = some (.slice (some ⟨ab0, ao0, none⟩) ln0 cc0) ∧ W.cell? ⟨ab0, ao0 + ij * 4 + 1, none⟩ = some (.int .i64 y2))) W'
                              rw [g19]
                              exact h
                            clear g19 e1 e2 e3
                            obtain rfl : l = [(0, 154), (1, 155), (2, 156), (3, 157), (4, 158), (5, 159)] := hl.symm.trans (by kernel_rfl)
                            have p2 : vs 2 = _ := hp 2 (by decide) (by decide)
                            have p5 : vs 5 = _ := hp 5 (by decide) (by decide)
                            clear hp hl
                            refine opgoal (_) (some 160) rfl rfl fun K hK => ?_
                            have hr1 := (hS.2 rfl).1
                            refine Runs.mk ?_
                            simp only [putAll]
                            go_simp
                            refine hK _ _ ?_ hS ⟨fun h => absurd h (by decide), fun h19 => ((fun w => trivial) W)⟩ _ rfl rfl
                            first | rfl | go_simp | simp
                          · -- 7: Op.move (Operand.tmp 20)  [(2, 'true')]
                            intro l hl vs W dn e1 e2 e3 hS hR hp
                            have f19 : dn 19 = false := e3 19 (by kernel_rfl)
                            replace hS : (fun W => Tw w W [(ob, opO p)] b b2 N L (if (dn 19) then LX else L) ∧ ((dn 19) = false → W.cell? ⟨b2, 1, none⟩ = some (.slice (some ⟨ab0, ao0, none⟩) ln0 cc0) ∧ W.cell? ⟨ab0, ao0 + ij * 4 + 1, none⟩ = some (.int .i64 y2))) W := hS
                            rw [f19] at hS
                            have g19 : (dn 19 || ((7 : Nat) == 19)) = false := by rw [f19]; rfl
                            refine OpGoal.imp (S1 := fun W => Tw w W [(ob, opO p)] b b2 N L (if false then LX else L) ∧ (false = false → W.cell? ⟨b2, 1, none⟩ = some (.slice (some ⟨ab0, ao0, none⟩) ln0 cc0) ∧ W.cell? ⟨ab0, ao0 + ij * 4 + 1, none⟩ = some (.int .i64 y2))) (fun W' h => ?_) ?_
                            · show (fun W => Tw w W [(ob, opO p)] b b2 N L (if (dn 19 || ((7 : Nat) == 19)) then LX else L) ∧ ((dn 19 || ((7 : Nat) == 19)) = false → W.cell? ⟨b2, 1, none⟩ = some (.slice (some ⟨ab0, ao0, none⟩) ln0 cc0) ∧ W.cell? ⟨ab0, ao0 + ij * 4 + 1, none⟩ = some (.int .i64 y2))) W'
                              rw [g19]
                              exact h
                            clear g19 e1 e2 e3
                            obtain rfl : l = [(0, 154), (1, 155), (2, 156)] := hl.symm.trans (by kernel_rfl)
                            have p2 : vs 2 = _ := hp 2 (by decide) (by decide)
                            clear hp hl
                            refine opgoal (_) (some 161) rfl rfl fun K hK => ?_
                            refine Runs.mk ?_
                            simp only [putAll]
                            go_simp
                            refine hK _ _ ?_ hS ⟨fun h => absurd h (by decide), fun h19 => ((fun w => trivial) W)⟩ _ rfl rfl
                            first | rfl | go_simp | simp
                          · -- 8: Op.indexAddr 90 (Operand.tmp 160) (Operand.tmp 161)  [(2, 'true')]
                            intro l hl vs W dn e1 e2 e3 hS hR hp
                            have f19 : dn 19 = false := e3 19 (by kernel_rfl)
                            replace hS : (fun W => Tw w W [(ob, opO p)] b b2 N L (if (dn 19) then LX else L) ∧ ((dn 19) = false → W.cell? ⟨b2, 1, none⟩ = some (.slice (some ⟨ab0, ao0, none⟩) ln0 cc0) ∧ W.cell? ⟨ab0, ao0 + ij * 4 + 1, none⟩ = some (.int .i64 y2))) W := hS
                            rw [f19] at hS
                            have g19 : (dn 19 || ((8 : Nat) == 19)) = false := by rw [f19]; rfl
                            refine OpGoal.imp (S1 := fun W => Tw w W [(ob, opO p)] b b2 N L (if false then LX else L) ∧ (false = false → W.cell? ⟨b2, 1, none⟩ = some (.slice (some ⟨ab0, ao0, none⟩) ln0 cc0) ∧ W.cell? ⟨ab0, ao0 + ij * 4 + 1, none⟩ = some (.int .i64 y2))) (fun W' h => ?_) ?_
                            · show (fun W => Tw w W [(ob, opO p)] b b2 N L (if (dn 19 || ((8 : Nat) == 19)) then LX else L) ∧ ((dn 19 || ((8 : Nat) == 19)) = false → W.cell? ⟨b2, 1, none⟩ = some (.slice (some ⟨ab0, ao0, none⟩) ln0 cc0) ∧ W.cell? ⟨ab0, ao0 + ij * 4 + 1, none⟩ = some (.int .i64 y2))) W'
                              rw [g19]
                              exact h
                            clear g19 e1 e2 e3
                            obtain rfl : l = [(0, 154), (1, 155), (2, 156), (3, 157), (4, 158), (5, 159), (6, 160), (7, 161)] := hl.symm.trans (by kernel_rfl)
                            have p2 : vs 2 = _ := hp 2 (by decide) (by decide)
                            have p6 : vs 6 = _ := hp 6 (by decide) (by decide)
                            have p7 : vs 7 = _ := hp 7 (by decide) (by decide)
                            clear hp hl
                            refine opgoal (_) (some 162) rfl rfl fun K hK => ?_
                            refine Runs.mk ?_
                            simp only [putAll]
                            go_simp
                            refine hK _ _ ?_ hS ⟨fun h => absurd h (by decide), fun h19 => ((fun w => trivial) W)⟩ _ rfl rfl
                            first | rfl | go_simp | simp
                          · -- 9: Op.fieldAddr 94 (Operand.tmp 162) 1  [(2, 'true')]
                            intro l hl vs W dn e1 e2 e3 hS hR hp
                            have f19 : dn 19 = false := e3 19 (by kernel_rfl)
                            replace hS : (fun W => Tw w W [(ob, opO p)] b b2 N L (if (dn 19) then LX else L) ∧ ((dn 19) = false → W.cell? ⟨b2, 1, none⟩ = some (.slice (some ⟨ab0, ao0, none⟩) ln0 cc0) ∧ W.cell? ⟨ab0, ao0 + ij * 4 + 1, none⟩ = some (.int .i64 y2))) W := hS
                            rw [f19] at hS
                            have g19 : (dn 19 || ((9 : Nat) == 19)) = false := by rw [f19]; rfl
                            refine OpGoal.imp (S1 := fun W => Tw w W [(ob, opO p)] b b2 N L (if false then LX else L) ∧ (false = false → W.cell? ⟨b2, 1, none⟩ = some (.slice (some ⟨ab0, ao0, none⟩) ln0 cc0) ∧ W.cell? ⟨ab0, ao0 + ij * 4 + 1, none⟩ = some (.int .i64 y2))) (fun W' h => ?_) ?_
                            · show (fun W => Tw w W [(ob, opO p)] b b2 N L (if (dn 19 || ((9 : Nat) == 19)) then LX else L) ∧ ((dn 19 || ((9 : Nat) == 19)) = false → W.cell? ⟨b2, 1, none⟩ = some (.slice (some ⟨ab0, ao0, none⟩) ln0 cc0) ∧ W.cell? ⟨ab0, ao0 + ij * 4 + 1, none⟩ = some (.int .i64 y2))) W'
                              rw [g19]
                              exact h
                            clear g19 e1 e2 e3
                            obtain rfl : l = [(0, 154), (1, 155), (2, 156), (3, 157), (4, 158), (5, 159), (6, 160), (7, 161), (8, 162)] := hl.symm.trans (by kernel_rfl)
                            have p2 : vs 2 = _ := hp 2 (by decide) (by decide)
                            have p8 : vs 8 = _ := hp 8 (by decide) (by decide)
                            clear hp hl
                            refine opgoal (_) (some 163) rfl rfl fun K hK => ?_
                            refine Runs.mk ?_
                            simp only [putAll]
                            go_simp
                            refine hK _ _ ?_ hS ⟨fun h => absurd h (by decide), fun h19 => ((fun w => trivial) W)⟩ _ rfl rfl
                            first | rfl | go_simp | simp
                          · -- 10: Op.load 3 (Operand.tmp 163)  [(2, 'true')]
                            intro l hl vs W dn e1 e2 e3 hS hR hp
                            have f19 : dn 19 = false := e3 19 (by kernel_rfl)
                            replace hS : (fun W => Tw w W [(ob, opO p)] b b2 N L (if (dn 19) then LX else L) ∧ ((dn 19) = false → W.cell? ⟨b2, 1, none⟩ = some (.slice (some ⟨ab0, ao0, none⟩) ln0 cc0) ∧ W.cell? ⟨ab0, ao0 + ij * 4 + 1, none⟩ = some (.int .i64 y2))) W := hS
                            rw [f19] at hS
                            have g19 : (dn 19 || ((10 : Nat) == 19)) = false := by rw [f19]; rfl
                            refine OpGoal.imp (S1 := fun W => Tw w W [(ob, opO p)] b b2 N L (if false then LX else L) ∧ (false = false → W.cell? ⟨b2, 1, none⟩ = some (.slice (some ⟨ab0, ao0, none⟩) ln0 cc0) ∧ W.cell? ⟨ab0, ao0 + ij * 4 + 1, none⟩ = some (.int .i64 y2))) (fun W' h => ?_) ?_
                            · show (fun W => Tw w W [(ob, opO p)] b b2 N L (if (dn 19 || ((10 : Nat) == 19)) then LX else L) ∧ ((dn 19 || ((10 : Nat) == 19)) = false → W.cell? ⟨b2, 1, none⟩ = some (.slice (some ⟨ab0, ao0, none⟩) ln0 cc0) ∧ W.cell? ⟨ab0, ao0 + ij * 4 + 1, none⟩ = some (.int .i64 y2))) W'
                              rw [g19]
                              exact h
                            clear g19 e1 e2 e3
                            obtain rfl : l = [(0, 154), (1, 155), (2, 156), (3, 157), (4, 158), (5, 159), (6, 160), (7, 161), (8, 162), (9, 163)] := hl.symm.trans (by kernel_rfl)
                            have p2 : vs 2 = _ := hp 2 (by decide) (by decide)
                            have p9 : vs 9 = _ := hp 9 (by decide) (by decide)
                            clear hp hl
                            refine opgoal (_) (some 164) rfl rfl fun K hK => ?_
                            have hr1 := (hS.2 rfl).2
                            refine Runs.mk ?_
                            simp only [putAll]
                            go_simp
                            refine hK _ _ ?_ hS ⟨fun h => absurd h (by decide), fun h19 => ((fun w => trivial) W)⟩ _ rfl rfl
                            first | rfl | go_simp | simp
                          · -- 11: Op.fieldAddr 86 (Operand.tmp 9) 2  [(2, 'true')]
                            intro l hl vs W dn e1 e2 e3 hS hR hp
                            have f19 : dn 19 = false := e3 19 (by kernel_rfl)
                            replace hS : (fun W => Tw w W [(ob, opO p)] b b2 N L (if (dn 19) then LX else L) ∧ ((dn 19) = false → W.cell? ⟨b2, 1, none⟩ = some (.slice (some ⟨ab0, ao0, none⟩) ln0 cc0) ∧ W.cell? ⟨ab0, ao0 + ij * 4 + 1, none⟩ = some (.int .i64 y2))) W := hS
                            rw [f19] at hS
                            have g19 : (dn 19 || ((11 : Nat) == 19)) = false := by rw [f19]; rfl
                            refine OpGoal.imp (S1 := fun W => Tw w W [(ob, opO p)] b b2 N L (if false then LX else L) ∧ (false = false → W.cell? ⟨b2, 1, none⟩ = some (.slice (some ⟨ab0, ao0, none⟩) ln0 cc0) ∧ W.cell? ⟨ab0, ao0 + ij * 4 + 1, none⟩ = some (.int .i64 y2))) (fun W' h => ?_) ?_
                            · show (fun W => Tw w W [(ob, opO p)] b b2 N L (if (dn 19 || ((11 : Nat) == 19)) then LX else L) ∧ ((dn 19 || ((11 : Nat) == 19)) = false → W.cell? ⟨b2, 1, none⟩ = some (.slice (some ⟨ab0, ao0, none⟩) ln0 cc0) ∧ W.cell? ⟨ab0, ao0 + ij * 4 + 1, none⟩ = some (.int .i64 y2))) W'
                              rw [g19]
                              exact h
                            clear g19 e1 e2 e3
                            obtain rfl : l = [(0, 154), (1, 155), (2, 156)] := hl.symm.trans (by kernel_rfl)
                            have p2 : vs 2 = _ := hp 2 (by decide) (by decide)
                            clear hp hl
                            refine opgoal (_) (some 165) rfl rfl fun K hK => ?_
                            refine Runs.mk ?_
                            simp only [putAll]
                            go_simp
                            refine hK _ _ ?_ hS ⟨fun h => absurd h (by decide), fun h19 => ((fun w => trivial) W)⟩ _ rfl rfl
                            first | rfl | go_simp | simp
                          · -- 12: Op.load 3 (Operand.tmp 165)  [(2, 'true')]
                            intro l hl vs W dn e1 e2 e3 hS hR hp
                            have f19 : dn 19 = false := e3 19 (by kernel_rfl)
                            replace hS : (fun W => Tw w W [(ob, opO p)] b b2 N L (if (dn 19) then LX else L) ∧ ((dn 19) = false → W.cell? ⟨b2, 1, none⟩ = some (.slice (some ⟨ab0, ao0, none⟩) ln0 cc0) ∧ W.cell? ⟨ab0, ao0 + ij * 4 + 1, none⟩ = some (.int .i64 y2))) W := hS
                            rw [f19] at hS
                            have g19 : (dn 19 || ((12 : Nat) == 19)) = false := by rw [f19]; rfl
                            refine OpGoal.imp (S1 := fun W => Tw w W [(ob, opO p)] b b2 N L (if false then LX else L) ∧ (false = false → W.cell? ⟨b2, 1, none⟩ = some (.slice (some ⟨ab0, ao0, none⟩) ln0 cc0) ∧ W.cell? ⟨ab0, ao0 + ij * 4 + 1, none⟩ = some (.int .i64 y2))) (fun W' h => ?_) ?_
                            · show (fun W => Tw w W [(ob, opO p)] b b2 N L (if (dn 19 || ((12 : Nat) == 19)) then LX else L) ∧ ((dn 19 || ((12 : Nat) == 19)) = false → W.cell? ⟨b2, 1, none⟩ = some (.slice (some ⟨ab0, ao0, none⟩) ln0 cc0) ∧ W.cell? ⟨ab0, ao0 + ij * 4 + 1, none⟩ = some (.int .i64 y2))) W'
                              rw [g19]
                              exact h
                            clear g19 e1 e2 e3
                            obtain rfl : l = [(0, 154), (1, 155), (2, 156), (11, 165)] := hl.symm.trans (by kernel_rfl)
                            have p2 : vs 2 = _ := hp 2 (by decide) (by decide)
                            have p11 : vs 11 = _ := hp 11 (by decide) (by decide)
                            clear hp hl
                            refine opgoal (_) (some 166) rfl rfl fun K hK => ?_
                            obtain ⟨f0, f1, f2, f3, f4⟩ := HCE.out _ _ _ hS.1
                            refine Runs.mk ?_
                            simp only [putAll]
                            go_simp
                            refine hK _ _ ?_ hS ⟨fun h => absurd h (by decide), fun h19 => ((fun w => trivial) W)⟩ _ rfl rfl
                            first | rfl | go_simp | simp
                          · -- 13: Op.binOp BinOp.lss 3 (Operand.tmp 164) (Operand.tmp 166) 3  [(2, 'true')]
                            intro l hl vs W dn e1 e2 e3 hS hR hp
                            have f19 : dn 19 = false := e3 19 (by kernel_rfl)
                            replace hS : (fun W => Tw w W [(ob, opO p)] b b2 N L (if (dn 19) then LX else L) ∧ ((dn 19) = false → W.cell? ⟨b2, 1, none⟩ = some (.slice (some ⟨ab0, ao0, none⟩) ln0 cc0) ∧ W.cell? ⟨ab0, ao0 + ij * 4 + 1, none⟩ = some (.int .i64 y2))) W := hS
                            rw [f19] at hS
                            have g19 : (dn 19 || ((13 : Nat) == 19)) = false := by rw [f19]; rfl
                            refine OpGoal.imp (S1 := fun W => Tw w W [(ob, opO p)] b b2 N L (if false then LX else L) ∧ (false = false → W.cell? ⟨b2, 1, none⟩ = some (.slice (some ⟨ab0, ao0, none⟩) ln0 cc0) ∧ W.cell? ⟨ab0, ao0 + ij * 4 + 1, none⟩ = some (.int .i64 y2))) (fun W' h => ?_) ?_
                            · show (fun W => Tw w W [(ob, opO p)] b b2 N L (if (dn 19 || ((13 : Nat) == 19)) then LX else L) ∧ ((dn 19 || ((13 : Nat) == 19)) = false → W.cell? ⟨b2, 1, none⟩ = some (.slice (some ⟨ab0, ao0, none⟩) ln0 cc0) ∧ W.cell? ⟨ab0, ao0 + ij * 4 + 1, none⟩ = some (.int .i64 y2))) W'
                              rw [g19]
                              exact h
                            clear g19 e1 e2 e3
                            obtain rfl : l = [(0, 154), (1, 155), (2, 156), (3, 157), (4, 158), (5, 159), (6, 160), (7, 161), (8, 162), (9, 163), (10, 164), (11, 165), (12, 166)] := hl.symm.trans (by kernel_rfl)
                            have p2 : vs 2 = _ := hp 2 (by decide) (by decide)
                            have p10 : vs 10 = _ := hp 10 (by decide) (by decide)
                            have p12 : vs 12 = _ := hp 12 (by decide) (by decide)
                            clear hp hl
                            refine opgoal (_) (some 167) rfl rfl fun K hK => ?_
                            refine Runs.mk ?_
                            simp only [putAll]
                            go_simp
                            refine hK _ _ ?_ hS ⟨fun h => absurd h (by decide), fun h19 => ((fun w => trivial) W)⟩ _ rfl rfl
                            first | rfl | go_simp | simp
                          · -- 14: Op.pick (Operand.tmp 156) (Operand.tmp 167) (Operand.const (Value.bool false))
                            intro l hl vs W dn e1 e2 e3 hS hR hp
                            have f19 : dn 19 = false := e3 19 (by kernel_rfl)
                            replace hS : (fun W => Tw w W [(ob, opO p)] b b2 N L (if (dn 19) then LX else L) ∧ ((dn 19) = false → W.cell? ⟨b2, 1, none⟩ = some (.slice (some ⟨ab0, ao0, none⟩) ln0 cc0) ∧ W.cell? ⟨ab0, ao0 + ij * 4 + 1, none⟩ = some (.int .i64 y2))) W := hS
                            rw [f19] at hS
                            have g19 : (dn 19 || ((14 : Nat) == 19)) = false := by rw [f19]; rfl
                            refine OpGoal.imp (S1 := fun W => Tw w W [(ob, opO p)] b b2 N L (if false then LX else L) ∧ (false = false → W.cell? ⟨b2, 1, none⟩ = some (.slice (some ⟨ab0, ao0, none⟩) ln0 cc0) ∧ W.cell? ⟨ab0, ao0 + ij * 4 + 1, none⟩ = some (.int .i64 y2))) (fun W' h => ?_) ?_
                            · show (fun W => Tw w W [(ob, opO p)] b b2 N L (if (dn 19 || ((14 : Nat) == 19)) then LX else L) ∧ ((dn 19 || ((14 : Nat) == 19)) = false → W.cell? ⟨b2, 1, none⟩ = some (.slice (some ⟨ab0, ao0, none⟩) ln0 cc0) ∧ W.cell? ⟨ab0, ao0 + ij * 4 + 1, none⟩ = some (.int .i64 y2))) W'
                              rw [g19]
                              exact h
                            clear g19 e1 e2 e3
                            obtain rfl : l = [(0, 154), (1, 155), (2, 156), (3, 157), (4, 158), (5, 159), (6, 160), (7, 161), (8, 162), (9, 163), (10, 164), (11, 165), (12, 166), (13, 167)] := hl.symm.trans (by kernel_rfl)
                            have p2 : vs 2 = _ := hp 2 (by decide) (by decide)
                            have p13 : vs 13 = _ := hp 13 (by decide) (by decide)
                            clear hp hl
                            refine opgoal (_) (some 168) rfl rfl fun K hK => ?_
                            refine Runs.mk ?_
                            simp only [putAll]
                            go_simp
                            refine hK _ _ ?_ hS ⟨fun h => absurd h (by decide), fun h19 => ((fun w => trivial) W)⟩ _ rfl rfl
                            first | rfl | go_simp | simp
                          · -- 15: Op.move (Operand.tmp 168)
                            intro l hl vs W dn e1 e2 e3 hS hR hp
                            have f19 : dn 19 = false := e3 19 (by kernel_rfl)
                            replace hS : (fun W => Tw w W [(ob, opO p)] b b2 N L (if (dn 19) then LX else L) ∧ ((dn 19) = false → W.cell? ⟨b2, 1, none⟩ = some (.slice (some ⟨ab0, ao0, none⟩) ln0 cc0) ∧ W.cell? ⟨ab0, ao0 + ij * 4 + 1, none⟩ = some (.int .i64 y2))) W := hS
                            rw [f19] at hS
                            have g19 : (dn 19 || ((15 : Nat) == 19)) = false := by rw [f19]; rfl
                            refine OpGoal.imp (S1 := fun W => Tw w W [(ob, opO p)] b b2 N L (if false then LX else L) ∧ (false = false → W.cell? ⟨b2, 1, none⟩ = some (.slice (some ⟨ab0, ao0, none⟩) ln0 cc0) ∧ W.cell? ⟨ab0, ao0 + ij * 4 + 1, none⟩ = some (.int .i64 y2))) (fun W' h => ?_) ?_
                            · show (fun W => Tw w W [(ob, opO p)] b b2 N L (if (dn 19 || ((15 : Nat) == 19)) then LX else L) ∧ ((dn 19 || ((15 : Nat) == 19)) = false → W.cell? ⟨b2, 1, none⟩ = some (.slice (some ⟨ab0, ao0, none⟩) ln0 cc0) ∧ W.cell? ⟨ab0, ao0 + ij * 4 + 1, none⟩ = some (.int .i64 y2))) W'
                              rw [g19]
                              exact h
                            clear g19 e1 e2 e3
                            obtain rfl : l = [(0, 154), (1, 155), (2, 156), (3, 157), (4, 158), (5, 159), (6, 160), (7, 161), (8, 162), (9, 163), (10, 164), (11, 165), (12, 166), (13, 167), (14, 168)] := hl.symm.trans (by kernel_rfl)
                            have p14 : vs 14 = _ := hp 14 (by decide) (by decide)
                            clear hp hl
                            refine opgoal (_) (some 169) rfl rfl fun K hK => ?_
                            refine Runs.mk ?_
                            simp only [putAll]
                            go_simp
                            refine hK _ _ ?_ hS ⟨fun h => absurd h (by decide), fun h19 => ((fun w => trivial) W)⟩ _ rfl rfl
                            first | rfl | go_simp | simp
                          · -- 16: Op.move (Operand.tmp 7)  [(15, 'true')]
                            intro l hl vs W dn e1 e2 e3 hS hR hp
                            have f19 : dn 19 = false := e3 19 (by kernel_rfl)
                            replace hS : (fun W => Tw w W [(ob, opO p)] b b2 N L (if (dn 19) then LX else L) ∧ ((dn 19) = false → W.cell? ⟨b2, 1, none⟩ = some (.slice (some ⟨ab0, ao0, none⟩) ln0 cc0) ∧ W.cell? ⟨ab0, ao0 + ij * 4 + 1, none⟩ = some (.int .i64 y2))) W := hS
                            rw [f19] at hS
                            have g19 : (dn 19 || ((16 : Nat) == 19)) = false := by rw [f19]; rfl
                            refine OpGoal.imp (S1 := fun W => Tw w W [(ob, opO p)] b b2 N L (if false then LX else L) ∧ (false = false → W.cell? ⟨b2, 1, none⟩ = some (.slice (some ⟨ab0, ao0, none⟩) ln0 cc0) ∧ W.cell? ⟨ab0, ao0 + ij * 4 + 1, none⟩ = some (.int .i64 y2))) (fun W' h => ?_) ?_
                            · show (fun W => Tw w W [(ob, opO p)] b b2 N L (if (dn 19 || ((16 : Nat) == 19)) then LX else L) ∧ ((dn 19 || ((16 : Nat) == 19)) = false → W.cell? ⟨b2, 1, none⟩ = some (.slice (some ⟨ab0, ao0, none⟩) ln0 cc0) ∧ W.cell? ⟨ab0, ao0 + ij * 4 + 1, none⟩ = some (.int .i64 y2))) W'
                              rw [g19]
                              exact h
                            clear g19 e1 e2 e3
                            obtain rfl : l = [(0, 154), (1, 155), (2, 156), (3, 157), (4, 158), (5, 159), (6, 160), (7, 161), (8, 162), (9, 163), (10, 164), (11, 165), (12, 166), (13, 167), (14, 168), (15, 169)] := hl.symm.trans (by kernel_rfl)
                            have p15 : vs 15 = _ := hp 15 (by decide) (by decide)
                            clear hp hl
                            refine opgoal (_) (some 170) rfl rfl fun K hK => ?_
                            refine Runs.mk ?_
                            simp only [putAll]
                            go_simp
                            refine hK _ _ ?_ hS ⟨fun h => absurd h (by decide), fun h19 => ((fun w => trivial) W)⟩ _ rfl rfl
                            first | rfl | go_simp | simp
                          · -- 17: Op.fieldAddr 86 (Operand.tmp 9) 1  [(15, 'true')]
                            intro l hl vs W dn e1 e2 e3 hS hR hp
                            have f19 : dn 19 = false := e3 19 (by kernel_rfl)
                            replace hS : (fun W => Tw w W [(ob, opO p)] b b2 N L (if (dn 19) then LX else L) ∧ ((dn 19) = false → W.cell? ⟨b2, 1, none⟩ = some (.slice (some ⟨ab0, ao0, none⟩) ln0 cc0) ∧ W.cell? ⟨ab0, ao0 + ij * 4 + 1, none⟩ = some (.int .i64 y2))) W := hS
                            rw [f19] at hS
                            have g19 : (dn 19 || ((17 : Nat) == 19)) = false := by rw [f19]; rfl
                            refine OpGoal.imp (S1 := fun W => Tw w W [(ob, opO p)] b b2 N L (if false then LX else L) ∧ (false = false → W.cell? ⟨b2, 1, none⟩ = some (.slice (some ⟨ab0, ao0, none⟩) ln0 cc0) ∧ W.cell? ⟨ab0, ao0 + ij * 4 + 1, none⟩ = some (.int .i64 y2))) (fun W' h => ?_) ?_
                            · show (fun W => Tw w W [(ob, opO p)] b b2 N L (if (dn 19 || ((17 : Nat) == 19)) then LX else L) ∧ ((dn 19 || ((17 : Nat) == 19)) = false → W.cell? ⟨b2, 1, none⟩ = some (.slice (some ⟨ab0, ao0, none⟩) ln0 cc0) ∧ W.cell? ⟨ab0, ao0 + ij * 4 + 1, none⟩ = some (.int .i64 y2))) W'
                              rw [g19]
                              exact h
                            clear g19 e1 e2 e3
                            obtain rfl : l = [(0, 154), (1, 155), (2, 156), (3, 157), (4, 158), (5, 159), (6, 160), (7, 161), (8, 162), (9, 163), (10, 164), (11, 165), (12, 166), (13, 167), (14, 168), (15, 169)] := hl.symm.trans (by kernel_rfl)
                            have p15 : vs 15 = _ := hp 15 (by decide) (by decide)
                            clear hp hl
                            refine opgoal (_) (some 171) rfl rfl fun K hK => ?_
                            refine Runs.mk ?_
                            simp only [putAll]
                            go_simp
                            refine hK _ _ ?_ hS ⟨fun h => absurd h (by decide), fun h19 => ((fun w => trivial) W)⟩ _ rfl rfl
                            first | rfl | go_simp | simp
                          · -- 18: Op.load 3 (Operand.tmp 171)  [(15, 'true')]
                            intro l hl vs W dn e1 e2 e3 hS hR hp
                            have f19 : dn 19 = false := e3 19 (by kernel_rfl)
                            replace hS : (fun W => Tw w W [(ob, opO p)] b b2 N L (if (dn 19) then LX else L) ∧ ((dn 19) = false → W.cell? ⟨b2, 1, none⟩ = some (.slice (some ⟨ab0, ao0, none⟩) ln0 cc0) ∧ W.cell? ⟨ab0, ao0 + ij * 4 + 1, none⟩ = some (.int .i64 y2))) W := hS
                            rw [f19] at hS
                            have g19 : (dn 19 || ((18 : Nat) == 19)) = false := by rw [f19]; rfl
                            refine OpGoal.imp (S1 := fun W => Tw w W [(ob, opO p)] b b2 N L (if false then LX else L) ∧ (false = false → W.cell? ⟨b2, 1, none⟩ = some (.slice (some ⟨ab0, ao0, none⟩) ln0 cc0) ∧ W.cell? ⟨ab0, ao0 + ij * 4 + 1, none⟩ = some (.int .i64 y2))) (fun W' h => ?_) ?_
                            · show (fun W => Tw w W [(ob, opO p)] b b2 N L (if (dn 19 || ((18 : Nat) == 19)) then LX else L) ∧ ((dn 19 || ((18 : Nat) == 19)) = false → W.cell? ⟨b2, 1, none⟩ = some (.slice (some ⟨ab0, ao0, none⟩) ln0 cc0) ∧ W.cell? ⟨ab0, ao0 + ij * 4 + 1, none⟩ = some (.int .i64 y2))) W'
                              rw [g19]
                              exact h
                            clear g19 e1 e2 e3
                            obtain rfl : l = [(0, 154), (1, 155), (2, 156), (3, 157), (4, 158), (5, 159), (6, 160), (7, 161), (8, 162), (9, 163), (10, 164), (11, 165), (12, 166), (13, 167), (14, 168), (15, 169), (17, 171)] := hl.symm.trans (by kernel_rfl)
                            have p15 : vs 15 = _ := hp 15 (by decide) (by decide)
                            have p17 : vs 17 = _ := hp 17 (by decide) (by decide)
                            clear hp hl
                            refine opgoal (_) (some 172) rfl rfl fun K hK => ?_
                            obtain ⟨f0, f1, f2, f3, f4⟩ := HCE.out _ _ _ hS.1
                            refine Runs.mk ?_
                            simp only [putAll]
                            go_simp
                            refine hK _ _ ?_ hS ⟨fun h => absurd h (by decide), fun h19 => ((fun w => trivial) W)⟩ _ rfl rfl
                            first | rfl | go_simp | simp
                          · -- 19: Op.call { callee := Callee.value (Operand.func 59), args := #[Operand.tmp 170, Operand.tmp 172], argTypes := #[89, 3] }  [(15, 'true')]
                            intro l hl vs W dn e1 e2 e3 hS hR hp
                            have f19 : dn 19 = false := e1
                            replace hS : (fun W => Tw w W [(ob, opO p)] b b2 N L (if (dn 19) then LX else L) ∧ ((dn 19) = false → W.cell? ⟨b2, 1, none⟩ = some (.slice (some ⟨ab0, ao0, none⟩) ln0 cc0) ∧ W.cell? ⟨ab0, ao0 + ij * 4 + 1, none⟩ = some (.int .i64 y2))) W := hS
                            rw [f19] at hS
                            have g19 : (dn 19 || ((19 : Nat) == 19)) = true := by rw [f19]; rfl
                            refine OpGoal.imp (S1 := fun W => Tw w W [(ob, opO p)] b b2 N L (if true then LX else L) ∧ (true = false → W.cell? ⟨b2, 1, none⟩ = some (.slice (some ⟨ab0, ao0, none⟩) ln0 cc0) ∧ W.cell? ⟨ab0, ao0 + ij * 4 + 1, none⟩ = some (.int .i64 y2))) (fun W' h => ?_) ?_
                            · show (fun W => Tw w W [(ob, opO p)] b b2 N L (if (dn 19 || ((19 : Nat) == 19)) then LX else L) ∧ ((dn 19 || ((19 : Nat) == 19)) = false → W.cell? ⟨b2, 1, none⟩ = some (.slice (some ⟨ab0, ao0, none⟩) ln0 cc0) ∧ W.cell? ⟨ab0, ao0 + ij * 4 + 1, none⟩ = some (.int .i64 y2))) W'
                              rw [g19]
                              exact h
                            clear g19 e1 e2 e3
                            obtain rfl : l = [(0, 154), (1, 155), (2, 156), (3, 157), (4, 158), (5, 159), (6, 160), (7, 161), (8, 162), (9, 163), (10, 164), (11, 165), (12, 166), (13, 167), (14, 168), (15, 169), (16, 170), (17, 171), (18, 172)] := hl.symm.trans (by kernel_rfl)
                            have p15 : vs 15 = _ := hp 15 (by decide) (by decide)
                            have p16 : vs 16 = _ := hp 16 (by decide) (by decide)
                            have p18 : vs 18 = _ := hp 18 (by decide) (by decide)
                            clear hp hl
                            refine opgoal (_) (some 173) rfl rfl fun K hK => ?_
                            refine Runs.mk ?_
                            simp only [putAll]
                            go_simp
                            refine (HDD.out W hS.1).mono ?_
                            rintro e w' ⟨rfl, hc⟩
                            go_simp
                            exact hK _ _ rfl ⟨hc, fun h => by cases h⟩ ⟨fun _ => trivial, fun h => absurd rfl h⟩ _ rfl rfl
                          · -- 20: Op.pick (Operand.tmp 169) (Operand.tmp 173) (Operand.const (Value.bool false))
                            intro l hl vs W dn e1 e2 e3 hS hR hp
                            have f19 : dn 19 = true := e2 19 (by kernel_rfl)
                            replace hS : (fun W => Tw w W [(ob, opO p)] b b2 N L (if (dn 19) then LX else L) ∧ ((dn 19) = false → W.cell? ⟨b2, 1, none⟩ = some (.slice (some ⟨ab0, ao0, none⟩) ln0 cc0) ∧ W.cell? ⟨ab0, ao0 + ij * 4 + 1, none⟩ = some (.int .i64 y2))) W := hS
                            rw [f19] at hS
                            have g19 : (dn 19 || ((20 : Nat) == 19)) = true := by rw [f19]; rfl
                            refine OpGoal.imp (S1 := fun W => Tw w W [(ob, opO p)] b b2 N L (if true then LX else L) ∧ (true = false → W.cell? ⟨b2, 1, none⟩ = some (.slice (some ⟨ab0, ao0, none⟩) ln0 cc0) ∧ W.cell? ⟨ab0, ao0 + ij * 4 + 1, none⟩ = some (.int .i64 y2))) (fun W' h => ?_) ?_
                            · show (fun W => Tw w W [(ob, opO p)] b b2 N L (if (dn 19 || ((20 : Nat) == 19)) then LX else L) ∧ ((dn 19 || ((20 : Nat) == 19)) = false → W.cell? ⟨b2, 1, none⟩ = some (.slice (some ⟨ab0, ao0, none⟩) ln0 cc0) ∧ W.cell? ⟨ab0, ao0 + ij * 4 + 1, none⟩ = some (.int .i64 y2))) W'
                              rw [g19]
                              exact h
                            clear g19 e1 e2 e3
                            obtain rfl : l = [(0, 154), (1, 155), (2, 156), (3, 157), (4, 158), (5, 159), (6, 160), (7, 161), (8, 162), (9, 163), (10, 164), (11, 165), (12, 166), (13, 167), (14, 168), (15, 169), (16, 170), (17, 171), (18, 172), (19, 173)] := hl.symm.trans (by kernel_rfl)
                            have p15 : vs 15 = _ := hp 15 (by decide) (by decide)
                            have p19 : vs 19 = _ := hp 19 (by decide) (by decide)
                            clear hp hl
                            refine opgoal (_) (some 174) rfl rfl fun K hK => ?_
                            refine Runs.mk ?_
                            simp only [putAll]
                            go_simp
                            refine hK _ _ ?_ hS ⟨fun h => absurd h (by decide), fun h19 => ((fun w => trivial) W)⟩ _ rfl rfl
                            first | rfl | go_simp | simp
                          · -- 21: Op.assign (Operand.tmp 174)
                            intro l hl vs W dn e1 e2 e3 hS hR hp
                            have f19 : dn 19 = true := e2 19 (by kernel_rfl)
                            replace hS : (fun W => Tw w W [(ob, opO p)] b b2 N L (if (dn 19) then LX else L) ∧ ((dn 19) = false → W.cell? ⟨b2, 1, none⟩ = some (.slice (some ⟨ab0, ao0, none⟩) ln0 cc0) ∧ W.cell? ⟨ab0, ao0 + ij * 4 + 1, none⟩ = some (.int .i64 y2))) W := hS
                            rw [f19] at hS
                            have g19 : (dn 19 || ((21 : Nat) == 19)) = true := by rw [f19]; rfl
                            refine OpGoal.imp (S1 := fun W => Tw w W [(ob, opO p)] b b2 N L (if true then LX else L) ∧ (true = false → W.cell? ⟨b2, 1, none⟩ = some (.slice (some ⟨ab0, ao0, none⟩) ln0 cc0) ∧ W.cell? ⟨ab0, ao0 + ij * 4 + 1, none⟩ = some (.int .i64 y2))) (fun W' h => ?_) ?_
                            · show (fun W => Tw w W [(ob, opO p)] b b2 N L (if (dn 19 || ((21 : Nat) == 19)) then LX else L) ∧ ((dn 19 || ((21 : Nat) == 19)) = false → W.cell? ⟨b2, 1, none⟩ = some (.slice (some ⟨ab0, ao0, none⟩) ln0 cc0) ∧ W.cell? ⟨ab0, ao0 + ij * 4 + 1, none⟩ = some (.int .i64 y2))) W'
                              rw [g19]
                              exact h
                            clear g19 e1 e2 e3
                            obtain rfl : l = [(0, 154), (1, 155), (2, 156), (3, 157), (4, 158), (5, 159), (6, 160), (7, 161), (8, 162), (9, 163), (10, 164), (11, 165), (12, 166), (13, 167), (14, 168), (15, 169), (16, 170), (17, 171), (18, 172), (19, 173), (20, 174)] := hl.symm.trans (by kernel_rfl)
                            have p20 : vs 20 = _ := hp 20 (by decide) (by decide)
                            clear hp hl
                            refine opgoal (_) (some 21) rfl rfl fun K hK => ?_
                            refine Runs.mk ?_
                            simp only [putAll]
                            go_simp
                            refine hK _ _ ?_ hS ⟨fun h => absurd h (by decide), fun h19 => ((fun w => trivial) W)⟩ _ rfl rfl
                            first | rfl | go_simp | simp
                        · intro l hl vs W dn hd hS hR hp
                          replace hS : (fun W => Tw w W [(ob, opO p)] b b2 N L (if (dn 19) then LX else L) ∧ ((dn 19) = false → W.cell? ⟨b2, 1, none⟩ = some (.slice (some ⟨ab0, ao0, none⟩) ln0 cc0) ∧ W.cell? ⟨ab0, ao0 + ij * 4 + 1, none⟩ = some (.int .i64 y2))) W := hS
                          rw [hd 19 (by decide)] at hS
                          obtain rfl : l = [(0, 154), (1, 155), (2, 156), (3, 157), (4, 158), (5, 159), (6, 160), (7, 161), (8, 162), (9, 163), (10, 164), (11, 165), (12, 166), (13, 167), (14, 168), (15, 169), (16, 170), (17, 171), (18, 172), (19, 173), (20, 174), (21, 21)] := hl.symm.trans (by kernel_rfl)
                          have p0 : vs 0 = _ := hp 0 (by decide) (by decide)
                          have p1 : vs 1 = _ := hp 1 (by decide) (by decide)
                          have p2 : vs 2 = _ := hp 2 (by decide) (by decide)
                          have p3 : vs 3 = _ := hp 3 (by decide) (by decide)
                          have p4 : vs 4 = _ := hp 4 (by decide) (by decide)
                          have p5 : vs 5 = _ := hp 5 (by decide) (by decide)
                          have p6 : vs 6 = _ := hp 6 (by decide) (by decide)
                          have p7 : vs 7 = _ := hp 7 (by decide) (by decide)
                          have p8 : vs 8 = _ := hp 8 (by decide) (by decide)
                          have p9 : vs 9 = _ := hp 9 (by decide) (by decide)
                          have p10 : vs 10 = _ := hp 10 (by decide) (by decide)
                          have p11 : vs 11 = _ := hp 11 (by decide) (by decide)
                          have p12 : vs 12 = _ := hp 12 (by decide) (by decide)
                          have p13 : vs 13 = _ := hp 13 (by decide) (by decide)
                          have p14 : vs 14 = _ := hp 14 (by decide) (by decide)
                          have p15 : vs 15 = _ := hp 15 (by decide) (by decide)
                          have p16 : vs 16 = _ := hp 16 (by decide) (by decide)
                          have p17 : vs 17 = _ := hp 17 (by decide) (by decide)
                          have p18 : vs 18 = _ := hp 18 (by decide) (by decide)
                          have p19 : vs 19 = _ := hp 19 (by decide) (by decide)
                          have p20 : vs 20 = _ := hp 20 (by decide) (by decide)
                          have p21 : vs 21 = _ := hp 21 (by decide) (by decide)
                          clear hp hl
                          simp only [putAll_mk, setAll, List.setIfInBounds_toArray, List.set_cons_succ, List.set_cons_zero, p0, p1, p2, p3, p4, p5, p6, p7, p8, p9, p10, p11, p12, p13, p14, p15, p16, p17, p18, p19, p20, p21]
                          have HS := Lib.hid hS.1
                          clear hS hR
                          obtain ⟨c0, c1, c2, c3, c4⟩ := HCE.out _ _ _ HS.out
                          have HST2 := Lib.hid (HSTL.out W LX HS.out)
                          go_wp2_with fail
                          refine HST2.out.mono ?_
                          rintro e w6 ⟨rfl, hc6⟩
                          have HC6 := Lib.hid hc6
                          clear hc6 c0 c1 c2 c3 c4
                          go_wp2_with fail
                          go_meet
                          exact ⟨_, HC6.out, hFt⟩
                      · rw [if_neg (by simp [hlt3])] at hst
                        have hd : decide (y2 < ox) = false := by simpa using hlt3
                        have hsb1 : sb = false := by rw [hsl]; simp [hlt3]
                        have hLX1 : LX = L := by rw [← hLX, hst]
                        subst hsb1
                        subst hLX1
                        clear k0 k1 k2 k3 hat hp hfd hst hsb hsl hLX hl hei hrd hln0 q0 q2 q3 hlt3
                        go_wp2_with fail
                        refine HAT4.out.mono ?_
                        rintro e w5 ⟨rfl, rfl⟩
                        go_wp2_with fail
                        go_quiet (fail)
                        clear c0 c1 c2 c3 c4 hcd q1
                        have HC5 := Lib.hid (HC4.out.below (below_drewN nq W))
                        obtain ⟨c0, c1, c2, c3, c4⟩ := HCE.out _ _ _ HC5.out
                        have HST2 := Lib.hid (HSTL.out _ _ HC5.out)
                        go_wp2_with fail
                        refine HST2.out.mono ?_
                        rintro e w6 ⟨rfl, hc6⟩
                        have HC6 := Lib.hid hc6
                        clear hc6 c0 c1 c2 c3 c4
                        go_wp2_with fail
                        go_meet
                        exact ⟨_, HC6.out, hFt⟩
                  · have e3 : (ok == 3) = false := by simpa using k3
                    by_cases k4 : ok = 4
                    · have e4 : (ok == 4) = true := by simpa using k4
                      as_aux_lemma =>
                        have hCn9 : Cn ≤ 40 := hog.2
                        have hCl : Hid (Cxs.length = Cn) := Lib.hid (by have := hls.out.2.1.len; simpa using this)
                        have hFt : Hid (Fit (dropL Cxs L) N) := Lib.hid ⟨Nat.le_trans len_drop hLN, uniq_drop hU.out⟩
                        have HDP : Hid (∀ wx L2, Tw w wx [(ob, opO p)] b b2 N L L2 → Calls Try.prog 55 #[.pointer (some ⟨b, 0, none⟩), .slice CA Cn Cc] wx fun e w' => e = .returned (.int .i64 ((L.length : Int) - (dropL Cxs L).length)) ∧ Tw w w' [(ob, opO p)] b b2 N (dropL Cxs L) L2) := Lib.hid fun wx L2 h =>
                          tw_drop h (by omega) CA Cn Cc Cxs (hls.out.2.1.below h.bel) hls.out.2.2.2
                        clear k0 k1 k2 k3 k4
                        go_wp2_with fail
                        clear c0 c1 c2 c3 c4
                        go_loopg [22, 188] Cn (fun gk u i wz => ∃ j m : Nat, gk = Cn - j ∧ j ≤ Cn ∧ i = .int .i64 j ∧ u = .int .i64 (m : Int) ∧ m + (dropL (Cxs.take j) L).length = L.length ∧ Tw w wz [(ob, opO p)] b b2 N L (dropL (Cxs.take j) L))
                        case atStart => exact ⟨0, 0, rfl, by omega, rfl, rfl, by rw [List.take_zero, drop_nil0]; simp, by rw [List.take_zero, drop_nil0]; exact HC4.out⟩
                        case round =>
                          obtain ⟨j, m, rfl, hj, rfl, rfl, hm, hc5⟩ := hrel
                          by_cases hlt2 : j < Cn
                          · have hjl : j < Cxs.length := by have := hCl.out; omega
                            obtain ⟨x, hx⟩ : ∃ x : Int, Hid (Cxs[j] = x) := ⟨_, Lib.hid rfl⟩
                            obtain ⟨xb0, xo, hA, hc⟩ := (hls.out.2.1.below hc5.bel).2.2 (by omega)
                            subst hA
                            have hcell := hc j hlt2
                            rw [List.getElem?_map, List.getElem?_eq_getElem hjl, hx.out, Option.map_some] at hcell
                            have htk : Cxs.take (j + 1) = Cxs.take j ++ [x] := by rw [List.take_add_one, List.getElem?_eq_getElem hjl, hx.out]; rfl
                            have hnx := drop_snoc (Cxs.take j) x L
                            rw [← htk] at hnx
                            obtain ⟨Lj, hLj⟩ : ∃ Lj, dropL (Cxs.take j) L = Lj := ⟨_, rfl⟩
                            have hUj : Uniq Lj := by rw [← hLj]; exact uniq_drop hU.out
                            have hlj : Lj.length ≤ L.length := by rw [← hLj]; exact len_drop
                            rw [hLj] at hc5 hm hnx
                            obtain ⟨hd1, hd2⟩ := ddrop_one (c := x) hUj
                            have hdr := tw_ddrop hc5 (by omega) x
                            rw [hd1] at hdr
                            obtain ⟨tk, htke⟩ : ∃ tk, (ddropL x Lj).2 = tk := ⟨_, rfl⟩
                            obtain ⟨Lk, hLk⟩ : ∃ Lk, dropL [x] Lj = Lk := ⟨_, rfl⟩
                            rw [htke, hLk] at hdr
                            rw [htke, hLk] at hd2
                            rw [hLk] at hnx
                            have HNX := Lib.hid hnx
                            have HDR := Lib.hid hdr
                            have HM := Lib.hid (And.intro hm hd2)
                            have hm9 : m ≤ 16 := by omega
                            clear hc hc5 hm hd2 hdr hnx htk hx hd1 htke hLk hUj hLj hlj
                            cases tk with
                            | true =>
                              go_wp2_with fail
                              refine HDR.out.mono ?_
                              rintro e w6 ⟨rfl, hc6⟩
                              have HC6 := Lib.hid hc6
                              clear hc6
                              go_wp2_with fail
                              go_roundg (Cn - (j + 1))
                              case measure => omega
                              case rel => exact ⟨j + 1, m + 1, rfl, by omega, by go_num, by go_num, by rw [HNX.out]; have := HM.out; simp at this; omega, by rw [HNX.out]; exact HC6.out⟩
                            | false =>
                              go_wp2_with fail
                              refine HDR.out.mono ?_
                              rintro e w6 ⟨rfl, hc6⟩
                              have HC6 := Lib.hid hc6
                              clear hc6
                              go_wp2_with fail
                              go_roundg (Cn - (j + 1))
                              case measure => omega
                              case rel => exact ⟨j + 1, m, rfl, by omega, by go_num, rfl, by rw [HNX.out]; have := HM.out; simp at this; omega, by rw [HNX.out]; exact HC6.out⟩
                          · obtain rfl : j = Cn := by omega
                            rw [List.take_of_length_le (by rw [hCl.out]; exact Nat.le_refl _)] at hc5 hm
                            obtain ⟨c0, c1, c2, c3, c4⟩ := HCE.out _ _ _ hc5
                            have hdp := HDP.out _ _ hc5
                            have hml : ((L.length : Int) - (dropL Cxs L).length) = (m : Int) := by omega
                            rw [hml] at hdp
                            have HP5 := Lib.hid hdp
                            clear hc5 hdp hml hm
                            go_wp2_with fail
                            refine HP5.out.mono ?_
                            rintro e w6 ⟨rfl, hc6⟩
                            have HC6 := Lib.hid hc6
                            clear hc6 c0 c1 c2 c3 c4
                            go_wp2_with fail
                            go_meet
                            exact ⟨_, HC6.out, hFt⟩
                    · have e4 : (ok == 4) = false := by simpa using k4
                      by_cases k5 : ok = 5
                      · have e5 : (ok == 5) = true := by simpa using k5
                        have HT := Lib.hid (tw_clear HC4.out)
                        have hFt : Hid (Fit [] N) := Lib.hid ⟨by simp, List.nodup_nil⟩
                        clear k0 k1 k2 k3 k4 k5
                        go_wp2_with fail
                        refine HT.out.mono ?_
                        rintro e w5 ⟨rfl, hc5⟩
                        clear c0 c1 c2 c3 c4
                        obtain ⟨h1, h2, h3⟩ := tw_nil hc5
                        obtain ⟨A0, cc0, h4, -⟩ := tw_row hc5
                        have H3 := Lib.hid h3
                        clear hc5 h3 h1
                        go_wp2_with fail
                        go_meet
                        exact ⟨_, H3.out, hFt⟩
                      · have e5 : (ok == 5) = false := by simpa using k5
                        have hFt : Hid (Fit L N) := Lib.hid ⟨hLN, hU.out⟩
                        clear k0 k1 k2 k3 k4 k5 c0 c1 c2 c3 c4
                        go_wp2_with fail
                        go_meet
                        exact ⟨_, HC4.out, hFt⟩
          case rest =>
            obtain ⟨L', hc5, hF⟩ := hcut
            have HL5 : Hid (L'.length ≤ N) := Lib.hid hF.out.1
            have hAf : Hid (Uniq L') := Lib.hid hF.out.2
            obtain ⟨ln5, hln5⟩ : ∃ x, Hid (L'.length = x) := ⟨_, Lib.hid rfl⟩
            have HC5 : Hid (Tw w wc.drew [(ob, opO p)] b b2 N L' L') := Lib.hid (hc5.below (below_drewN 1 wc))
            clear hc5
            go_wp2_with fail
            have hS0 := HC5.out
            refine wp_region_one (fun W => Tw w W [(ob, opO p)] b b2 N L' L') (fun u v => Below u.heap.size u v) (fun a i => match i with
                | 0 => (fun v _ => v = .pointer (some ⟨b, 0, none⟩))
                | 1 => (fun v W => ∃ A c, v = .slice A ln5 c ∧ RdE W A ln5 4 (L'.map encE))
                | 2 => (fun v W => ∃ A c, v = .slice A ln5 c ∧ RdE W A ln5 4 (L'.map encE))
                | 3 => (fun v _ => v = .pointer (some ⟨b2, 0, none⟩))
                | 4 => (fun v _ => v = .pointer (some ⟨b2, 0, none⟩))
                | 5 => (fun v _ => v = .pointer (some ⟨b2, 1, none⟩))
                | 6 => (fun v W => ∃ A c, v = .slice A ln5 c ∧ RdE W A ln5 4 (L'.map encE))
                | 7 => (fun v _ => v = .bool true)
                | 8 => (fun v _ => v = .bool false)
                | _ => (fun _ _ => True)) #[0, 1, 3, 0, 8, 24, 56, 127, 255] #[0, 1, 2, 0, 8, 16, 32, 68, 128] 441 (by kernel_rfl) 9 rfl (fun m hm => by subst hm; kernel_rfl) (by kernel_rfl) (fun w => Below.refl _ w) (fun u v w h1 h2 => below2 h1 h2) ?_ (hS0) ?_ ?_
            · intro i hi
              rcases (by omega : i = 0 ∨ i = 1 ∨ i = 2 ∨ i = 3 ∨ i = 4 ∨ i = 5 ∨ i = 6 ∨ i = 7 ∨ i = 8) with rfl | rfl | rfl | rfl | rfl | rfl | rfl | rfl | rfl
              · exact fun v w w' h hr => by exact h
              · exact fun v w w' h hr => by obtain ⟨A, c, h1, h2⟩ := h; exact ⟨A, c, h1, h2.below hr⟩
              · exact fun v w w' h hr => by obtain ⟨A, c, h1, h2⟩ := h; exact ⟨A, c, h1, h2.below hr⟩
              · exact fun v w w' h hr => by exact h
              · exact fun v w w' h hr => by exact h
              · exact fun v w w' h hr => by exact h
              · exact fun v w w' h hr => by obtain ⟨A, c, h1, h2⟩ := h; exact ⟨A, c, h1, h2.below hr⟩
              · exact fun v w w' h hr => by exact h
              · exact fun v w w' h hr => by exact h
            · intro i hi
              rcases (by omega : i = 0 ∨ i = 1 ∨ i = 2 ∨ i = 3 ∨ i = 4 ∨ i = 5 ∨ i = 6 ∨ i = 7 ∨ i = 8) with rfl | rfl | rfl | rfl | rfl | rfl | rfl | rfl | rfl
              · -- 0: Op.move (Operand.tmp 5)
                intro l hl vs W hS hR hp
                obtain rfl : l = [] := hl.symm.trans (by kernel_rfl)
                clear hp hl
                refine opgoal (_) (some 211) rfl rfl fun K hK => ?_
                refine Runs.mk ?_
                simp only [putAll]
                go_simp
                refine hK _ _ ?_ hS ((fun w => Below.refl _ w) W) _ rfl rfl
                first | rfl | go_simp | simp
              · -- 1: Op.call { callee := Callee.value (Operand.func 51), args := #[Operand.tmp 211], argTypes := #[72] }
                intro l hl vs W hS hR hp
                obtain rfl : l = [(0, 211)] := hl.symm.trans (by kernel_rfl)
                have p0 : vs 0 = _ := hp 0 (by decide) (by decide)
                clear hp hl
                refine opgoal (_) (some 212) rfl rfl fun K hK => ?_
                refine Runs.mk ?_
                simp only [putAll]
                go_simp
                refine (tw_all hS (by have := HL5.out; omega)).mono ?_
                rintro e w' ⟨A, c, rfl, hrd, hb⟩
                rw [hln5.out] at hrd ⊢
                go_simp
                exact hK _ _ ⟨A, c, rfl, hrd⟩ (hS.below hb) hb _ rfl rfl
              · -- 2: Op.call { callee := Callee.value (Operand.func 62), args := #[Operand.tmp 212], argTypes := #[80] }
                intro l hl vs W hS hR hp
                obtain rfl : l = [(0, 211), (1, 212)] := hl.symm.trans (by kernel_rfl)
                have p1 : (fun v W => ∃ A c, v = .slice A ln5 c ∧ RdE W A ln5 4 (L'.map encE)) (vs 1) W := hp 1 (by decide) (by decide)
                dsimp only at p1
                clear hp hl
                obtain ⟨A, c, q1, r1⟩ := p1
                refine opgoal (_) (some 213) rfl rfl fun K hK => ?_
                refine Runs.mk ?_
                simp only [putAll]
                go_simp
                refine (plain_any A ln5 c L' W r1 (by have := HL5.out; have := hln5.out; omega)).mono ?_
                rintro e w' ⟨A2, c2, rfl, hrd, hb⟩
                go_simp
                exact hK _ _ ⟨A2, c2, rfl, hrd⟩ (hS.below hb) hb _ rfl rfl
              · -- 3: Op.move (Operand.tmp 7)
                intro l hl vs W hS hR hp
                obtain rfl : l = [] := hl.symm.trans (by kernel_rfl)
                clear hp hl
                refine opgoal (_) (some 214) rfl rfl fun K hK => ?_
                refine Runs.mk ?_
                simp only [putAll]
                go_simp
                refine hK _ _ ?_ hS ((fun w => Below.refl _ w) W) _ rfl rfl
                first | rfl | go_simp | simp
              · -- 4: Op.nilCheck (Operand.tmp 214)
                intro l hl vs W hS hR hp
                obtain rfl : l = [(3, 214)] := hl.symm.trans (by kernel_rfl)
                have p3 : vs 3 = _ := hp 3 (by decide) (by decide)
                clear hp hl
                refine opgoal (_) (some 215) rfl rfl fun K hK => ?_
                refine Runs.mk ?_
                simp only [putAll]
                go_simp
                refine hK _ _ ?_ hS ((fun w => Below.refl _ w) W) _ rfl rfl
                first | rfl | go_simp | simp
              · -- 5: Op.fieldAddr 92 (Operand.tmp 215) 1
                intro l hl vs W hS hR hp
                obtain rfl : l = [(3, 214), (4, 215)] := hl.symm.trans (by kernel_rfl)
                have p4 : vs 4 = _ := hp 4 (by decide) (by decide)
                clear hp hl
                refine opgoal (_) (some 216) rfl rfl fun K hK => ?_
                refine Runs.mk ?_
                simp only [putAll]
                go_simp
                refine hK _ _ ?_ hS ((fun w => Below.refl _ w) W) _ rfl rfl
                first | rfl | go_simp | simp
              · -- 6: Op.load 90 (Operand.tmp 216)
                intro l hl vs W hS hR hp
                obtain rfl : l = [(3, 214), (4, 215), (5, 216)] := hl.symm.trans (by kernel_rfl)
                have p5 : vs 5 = _ := hp 5 (by decide) (by decide)
                clear hp hl
                refine opgoal (_) (some 217) rfl rfl fun K hK => ?_
                obtain ⟨A, c, hcd, hrd⟩ := tw_row hS
                rw [hln5.out] at hcd hrd
                refine Runs.mk ?_
                simp only [putAll]
                go_simp
                exact hK _ _ ⟨A, c, rfl, hrd⟩ hS (Below.refl _ _) _ rfl rfl
              · -- 7: Op.call { callee := Callee.value (Operand.func 61), args := #[Operand.tmp 213, Operand.tmp 217], argTypes := #[90, 90] }
                intro l hl vs W hS hR hp
                obtain rfl : l = [(0, 211), (1, 212), (2, 213), (3, 214), (4, 215), (5, 216), (6, 217)] := hl.symm.trans (by kernel_rfl)
                have p2 : (fun v W => ∃ A c, v = .slice A ln5 c ∧ RdE W A ln5 4 (L'.map encE)) (vs 2) W := hp 2 (by decide) (by decide)
                dsimp only at p2
                have p6 : (fun v W => ∃ A c, v = .slice A ln5 c ∧ RdE W A ln5 4 (L'.map encE)) (vs 6) W := hp 6 (by decide) (by decide)
                dsimp only at p6
                clear hp hl
                obtain ⟨A1, c1, q2, r2⟩ := p2
                obtain ⟨A2, c2, q6, r6⟩ := p6
                refine opgoal (_) (some 218) rfl rfl fun K hK => ?_
                refine Runs.mk ?_
                simp only [putAll]
                go_simp
                refine (same_ents A1 A2 ln5 c1 c2 L' W r2 r6).mono ?_
                rintro e w' ⟨rfl, hb⟩
                go_simp
                exact hK _ _ rfl (hS.below hb) hb _ rfl rfl
              · -- 8: Op.unOp UnOp.not 4 (Operand.tmp 218)
                intro l hl vs W hS hR hp
                obtain rfl : l = [(0, 211), (1, 212), (2, 213), (3, 214), (4, 215), (5, 216), (6, 217), (7, 218)] := hl.symm.trans (by kernel_rfl)
                have p7 : vs 7 = _ := hp 7 (by decide) (by decide)
                clear hp hl
                refine opgoal (_) (some 219) rfl rfl fun K hK => ?_
                refine Runs.mk ?_
                simp only [putAll]
                go_simp
                refine hK _ _ ?_ hS ((fun w => Below.refl _ w) W) _ rfl rfl
                first | rfl | go_simp | simp
            · intro l hl vs W hS hR hp
              obtain rfl : l = [(0, 211), (1, 212), (2, 213), (3, 214), (4, 215), (5, 216), (6, 217), (7, 218), (8, 219)] := hl.symm.trans (by kernel_rfl)
              have p0 : vs 0 = _ := hp 0 (by decide) (by decide)
              have p3 : vs 3 = _ := hp 3 (by decide) (by decide)
              have p4 : vs 4 = _ := hp 4 (by decide) (by decide)
              have p5 : vs 5 = _ := hp 5 (by decide) (by decide)
              have p7 : vs 7 = _ := hp 7 (by decide) (by decide)
              have p8 : vs 8 = _ := hp 8 (by decide) (by decide)
              clear hp hl
              simp only [putAll_mk, setAll, List.setIfInBounds_toArray, List.set_cons_succ, List.set_cons_zero, p0, p3, p4, p5, p7, p8]
              have HS := Lib.hid hS
              clear hS hR
              go_wp2_with fail
              go_roundw
              case rel => exact ⟨k + 1, L', by omega, by go_num, HS.out.sub (by simp), HL5.out, Lib.hid hAf.out⟩
              case measure => simp [intOf]; omega
        · obtain rfl : k = n := by omega
          have HB := Lib.hid htw.bel
          clear htw
          go_wp2
          go_ret
          exact ⟨rfl, HB.out⟩
theorem plays_row (w : World) (a : Int) (s : Sl OpR) (ha : (Lit.int .i64 a).wf = true) (hs : SlOk w 5 72 encOp (goodOp w) s) :
    Calls Try.prog 13 #[.int .i64 a, .slice s.A s.n s.c] w fun e w' => e = .returned (.bool true) ∧ Below w.heap.size w w' :=
  plays_walk w a s.A s.n s.c s.xs (script_of hs)
end Go.Proofs.Ytbdcgfdchkbcnaa.Ca

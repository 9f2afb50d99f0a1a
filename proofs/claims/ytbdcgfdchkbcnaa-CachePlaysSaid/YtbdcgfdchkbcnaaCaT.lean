/- cache: the law CacheKeeps. -/
import Derived.Test.YtbdcgfdchkbcnaaCaS
import Derived.Deep.DeepCutAuto
import Derived.Deep.CutBlock
namespace Go.Proofs.Ytbdcgfdchkbcnaa.Ca
open Go.RowKit Go.Proofs.Ytbdcgfdchkbcnaa.L Go.Proofs.Ytbdcgfdchkbcnaa.O Go.Proofs.Ytbdcgfdchkbcnaa.R Go.Proofs.Ytbdcgfdchkbcnaa.A Go.Proofs.Ytbdcgfdchkbcnaa.S Go.Proofs.Ytbdcgfdchkbcnaa.T Go.Proofs.Ytbdcgfdchkbcnaa.C Go.Proofs.Ytbdcgfdchkbcnaa.G Go.Proofs.Ytbdcgfdchkbcnaa.E Go.Proofs.Ytbdcgfdchkbcnaa.F
set_option linter.unusedVariables false
set_option linter.unusedSimpArgs false

/-- a block with an entry. -/
def entO (z : Ent) : Obj := .cells #[.int .i64 z.1, .int .i64 z.2.1, .int .i64 z.2.2.1, .int .i64 z.2.2.2] 77 (0, 0)
def opO (o : OpR) : Obj := .cells #[.int .i64 o.k, .int .i64 o.c, .int .i64 o.x, .slice o.L.A o.L.n o.L.c, .slice o.C.A o.C.n o.C.c] 86 (0, 0)
theorem ent_cells {W : World} {g : Nat} {z : Ent} (h : W.heap[g]? = some (entO z)) : W.cell? ⟨g, 0, none⟩ = some (.int .i64 z.1) ∧ W.cell? ⟨g, 1, none⟩ = some (.int .i64 z.2.1) ∧ W.cell? ⟨g, 2, none⟩ = some (.int .i64 z.2.2.1) ∧ W.cell? ⟨g, 3, none⟩ = some (.int .i64 z.2.2.2) := by
  refine ⟨?_, ?_, ?_, ?_⟩ <;> (rw [cell_of_row W g _ _ _ _ h]; rfl)
theorem op_cells {W : World} {g : Nat} {o : OpR} (h : W.heap[g]? = some (opO o)) : W.cell? ⟨g, 0, none⟩ = some (.int .i64 o.k) ∧ W.cell? ⟨g, 1, none⟩ = some (.int .i64 o.c) ∧ W.cell? ⟨g, 2, none⟩ = some (.int .i64 o.x) ∧ W.cell? ⟨g, 3, none⟩ = some (.slice o.L.A o.L.n o.L.c) ∧ W.cell? ⟨g, 4, none⟩ = some (.slice o.C.A o.C.n o.C.c) := by
  refine ⟨?_, ?_, ?_, ?_, ?_⟩ <;> (rw [cell_of_row W g _ _ _ _ h]; rfl)
theorem puts_len (room : Nat) (h0 : 0 < room) : ∀ (es L : List Ent), L.length ≤ room → (putsL room es L).1.length ≤ room
  | [], L, h => h
  | e :: es, L, h => puts_len room h0 es _ (len_put h0 h)
theorem puts_uniq (room : Nat) : ∀ (es L : List Ent), Uniq L → Uniq (putsL room es L).1
  | [], L, h => h
  | e :: es, L, h => puts_uniq room es _ (uniq_put h)
theorem puts_snoc (room : Nat) : ∀ (es : List Ent) (z : Ent) (L : List Ent), (putsL room (es ++ [z]) L).1 = (putL room z (putsL room es L).1).1
  | [], z, L => rfl
  | e :: es, z, L => puts_snoc room es z _
/-- what is so behind the switch. -/
def After (L L' : List Ent) (o : OpR) (N : Nat) : Prop := L'.length ≤ N ∧ Uniq L' ∧ (o.k ≠ 0 ∨ o.L.n ≤ 1 → Ge L L')
set_option maxHeartbeats 16000000 in
set_option maxRecDepth 100000 in
theorem keeps_walk (w : World) (m : Nat) (hm : m < 256) (A : Option Addr) (n c : Nat) (ops : List OpR) (hsc : Script w A n ops) :
    Calls Try.prog 12 #[.int .u8 m, .slice A n c] w fun e w' => e = .returned (.bool true) ∧ Below w.heap.size w w' := by
  obtain ⟨N, hN⟩ : ∃ N : Nat, Hid (1 + (m : Int) % 16 = (N : Int)) := ⟨1 + m % 16, Lib.hid (by omega)⟩
  have hN1 : 0 < N := by have := hN.out; omega
  have hN2 : N ≤ 16 := by have := hN.out; omega
  have hn9 := hsc.rd.2.1
  have HS := Lib.hid hsc
  have HL := Lib.hid hsc.len
  have HA := Lib.hid (awake_any w)
  obtain ⟨gr, hgr⟩ : ∃ gr, Hid (greatB ops = gr) := ⟨_, Lib.hid rfl⟩
  have HG : Hid (∀ w1, Below w.heap.size w w1 → Calls Try.prog 52 #[.slice A n c] w1 fun e w' => e = .returned (.bool gr) ∧ Below w1.heap.size w1 w') := Lib.hid fun w1 hb => by
    rw [← hgr.out]; exact great_any A n c ops w1 (hsc.below hb)
  clear hsc
  go_enter Try.func12, Try.ntmps12
  go_wp2_with fail
  refine HA.out.mono ?_
  rintro e w1 ⟨rfl, hb1⟩
  have HB1 := Lib.hid hb1
  clear hb1
  go_wp2_with fail
  refine (HG.out w1 HB1.out).mono ?_
  rintro e w2 ⟨rfl, hb2⟩
  have HB2 := Lib.hid (below2 HB1.out hb2)
  clear hb2
  cases gr with
  | true =>
    go_wp2
    go_ret
    exact ⟨rfl, HB2.out⟩
  | false =>
    have HNW := Lib.hid (cp_new w w2 HB2.out N hN1 hN2)
    go_wp2_with (rw [hN.out])
    refine HNW.out.mono ?_
    rintro e w3 ⟨b, rfl, hc3, -, -⟩
    have HC3 := Lib.hid hc3
    clear hc3
    go_wp2_with fail
    go_loopw [39] (fun i wr => ∃ (k : Nat) (L : List Ent), k ≤ n ∧ i = .int .i64 k ∧ CP w wr [] b N L ∧ L.length ≤ N ∧ Hid (Uniq L)) (fun i _ => n - (intOf i).toNat)
    case atStart => exact ⟨0, [], by omega, rfl, HC3.out, by simp, Lib.hid List.nodup_nil⟩
    case round =>
      obtain ⟨k, L, hkn, rfl, hcp, hLN, hU⟩ := hrel
      by_cases hlt : k < n
      · have hkl : k < ops.length := by have := HL.out; omega
        obtain ⟨o, ho⟩ : ∃ o, Hid (ops[k] = o) := ⟨_, Lib.hid rfl⟩
        have hsw := HS.out.below hcp.bel
        obtain ⟨ab, f, hA, c0, c1, c2, c3, c4⟩ := hsw.at k hlt hkl o ho.out
        have hls := Lib.hid (HS.out.ls o (by rw [← ho.out]; exact List.getElem_mem _))
        subst hA
        obtain ⟨ob, hob⟩ : ∃ ob, Hid (wr.heap.size = ob) := ⟨_, Lib.hid rfl⟩
        obtain ⟨W, hW⟩ : ∃ W, Hid (wr.alloc (opO o) = W) := ⟨_, Lib.hid rfl⟩
        obtain ⟨p, HO⟩ : ∃ p, Hid (p = o) := ⟨_, Lib.hid rfl⟩
        have hcW : CP w W [(ob, opO p)] b N L := by
          have := hcp.alloc (opO o)
          rw [hW.out, hob.out] at this
          rw [HO.out]
          exact this
        have HAL := Lib.hid (cp_all hcW (by omega))
        clear hsw hcp hcW ho
        obtain ⟨ok, oc, ox, ⟨LA, Ln, Lc, Lxs⟩, ⟨CA, Cn, Cc, Cxs⟩⟩ := o
        dsimp only at c0 c1 c2 c3 c4 hls
        unfold opO at hW
        dsimp only at hW
        go_wp2_with fail
        rw [hW.out, hob.out]
        refine HAL.out.mono ?_
        rintro e w4 ⟨A1, cc1, qr, rfl, hc4, hrd4⟩
        have HC4 := Lib.hid hc4
        have HRD := Lib.hid hrd4
        obtain ⟨c0', -, -, -, -⟩ := op_cells (hc4.pr (ob, opO p) (by simp)).1
        rw [HO.out] at c0'
        clear hc4 hrd4 c0 c1 c2 c3 c4
        dsimp only at c0'
        obtain ⟨ln, hln⟩ : ∃ ln, Hid (L.length = ln) := ⟨_, Lib.hid rfl⟩
        have hln9 : ln ≤ N := by have := hln.out; omega
        rw [hln.out]
        rw [hln.out] at HRD
        go_upto_block 2 with (fail)
        clear c0'
        go_cut [47] (fun s47 wx => ∃ L' : List Ent, CP w wx (qr ++ [(ob, opO p)]) b N L' ∧ Hid (After L L' p N))
        case first =>
          have HCE : Hid (∀ wx L', CP w wx (qr ++ [(ob, opO p)]) b N L' → wx.cell? ⟨ob, 0, none⟩ = some (.int .i64 ok) ∧ wx.cell? ⟨ob, 1, none⟩ = some (.int .i64 oc) ∧ wx.cell? ⟨ob, 2, none⟩ = some (.int .i64 ox) ∧ wx.cell? ⟨ob, 3, none⟩ = some (.slice LA Ln Lc) ∧ wx.cell? ⟨ob, 4, none⟩ = some (.slice CA Cn Cc)) := Lib.hid fun wx L' h => by
            have := op_cells (h.pr (ob, opO p) (by simp)).1
            rw [HO.out] at this
            exact this
          obtain ⟨c0, c1, c2, c3, c4⟩ := HCE.out _ _ HC4.out
          by_cases k0 : ok = 0
          · have e0 : (ok == 0) = true := by simpa using k0
            have hLn9 : Ln ≤ 9223372036854775807 := hls.out.1.2.1
            have hLl : Hid (Lxs.length = Ln) := Lib.hid (by have := hls.out.1.1; simpa using this)
            have hge : Hid (After L (putsL N Lxs L).1 p N) := Lib.hid (by
              refine ⟨puts_len N hN1 Lxs L hLN, puts_uniq N Lxs L hU.out, fun h => ?_⟩
              rw [HO.out] at h
              dsimp only at h
              have h1 : Lxs.length ≤ 1 := by rw [hLl.out]; omega
              cases Lxs with
              | nil => exact ge_sub hU.out fun y hy => hy
              | cons x xs =>
                obtain rfl : xs = [] := List.eq_nil_of_length_eq_zero (by simp at h1; simpa using h1)
                exact ge_put hU.out)
            clear k0
            go_wp2_with fail
            clear c0 c1 c2 c3 c4
            go_loopg [52] Ln (fun gk i wz => ∃ j : Nat, gk = Ln - j ∧ j ≤ Ln ∧ i = .int .i64 j ∧ CP w wz (qr ++ [(ob, opO p)]) b N (putsL N (Lxs.take j) L).1)
            case atStart => exact ⟨0, rfl, by omega, rfl, HC4.out⟩
            case round =>
              obtain ⟨j, rfl, hj, rfl, hc5⟩ := hrel
              by_cases hlt2 : j < Ln
              · have hjl : j < Lxs.length := by have := hLl.out; omega
                obtain ⟨x, hx⟩ : ∃ x : Ent, Hid (Lxs[j] = x) := ⟨_, Lib.hid rfl⟩
                obtain ⟨xb0, xo, hA, d0, d1, d2, d3⟩ := ent_at (hls.out.1.below hc5.bel) j hlt2 hjl x hx.out
                subst hA
                have hL1 : (putsL N (Lxs.take j) L).1.length ≤ N := puts_len N hN1 _ L hLN
                have hU1 : Uniq (putsL N (Lxs.take j) L).1 := puts_uniq N _ L hU.out
                have hnx : (putsL N (Lxs.take (j + 1)) L).1 = (putL N x (putsL N (Lxs.take j) L).1).1 := by
                  rw [List.take_add_one, List.getElem?_eq_getElem hjl, hx.out]
                  exact puts_snoc N _ x L
                obtain ⟨L1, hL1e⟩ : ∃ L1, (putsL N (Lxs.take j) L).1 = L1 := ⟨_, rfl⟩
                rw [hL1e] at hc5 hL1 hU1 hnx
                obtain ⟨xb, hxb⟩ : ∃ xb, Hid (wr.heap.size = xb) := ⟨_, Lib.hid rfl⟩
                obtain ⟨W5, hW5⟩ : ∃ W5, Hid (wr.alloc (entO x) = W5) := ⟨_, Lib.hid rfl⟩
                obtain ⟨x', HX'⟩ : ∃ x' : Ent, Hid (x' = x) := ⟨_, Lib.hid rfl⟩
                have hcW : CP w W5 ((xb, entO x') :: (qr ++ [(ob, opO p)])) b N L1 := by
                  have := hc5.alloc (entO x)
                  rw [hW5.out, hxb.out] at this
                  rw [HX'.out]
                  exact this
                have HPUT := Lib.hid (cp_put1 hcW hL1 hN1 (by omega) x rfl)
                obtain ⟨y, hpk, hy1, hy2⟩ := put_peek (room := N) (e := x) hU1
                have hlp := Lib.hid (len_put (e := x) hN1 hL1)
                obtain ⟨tk, htk⟩ : ∃ tk, (putL N x L1).2 = tk := ⟨_, rfl⟩
                obtain ⟨L2, hL2⟩ : ∃ L2, (putL N x L1).1 = L2 := ⟨_, rfl⟩
                rw [htk, hL2] at HPUT
                rw [hL2] at hpk hlp hnx
                rw [htk] at hy1 hy2
                have HPK := Lib.hid hpk
                have HNX := Lib.hid hnx
                have H5 := hcW.pr (xb, entO x') (by simp)
                obtain ⟨a0, a1, a2, a3⟩ := ent_cells H5.1
                rw [HX'.out] at a0 a1 a2 a3
                clear hc5 hcW hL1 hU1 hL1e hpk hnx htk hL2 H5 hx
                obtain ⟨x1, x2, x3, x4⟩ := x
                dsimp only at d0 d1 d2 d3 a0 a1 a2 a3 HPUT
                unfold entO at hW5
                dsimp only at hW5
                have ENT : Hid (∀ wx L3 pr3, CP w wx pr3 b N L3 → (xb, entO x') ∈ pr3 → wx.cell? ⟨xb, 0, none⟩ = some (.int .i64 x1) ∧ wx.cell? ⟨xb, 1, none⟩ = some (.int .i64 x2) ∧ wx.cell? ⟨xb, 2, none⟩ = some (.int .i64 x3) ∧ wx.cell? ⟨xb, 3, none⟩ = some (.int .i64 x4)) := Lib.hid fun wx L3 pr3 h hm => by
                  have := ent_cells (h.pr (xb, entO x') hm).1
                  rw [HX'.out] at this
                  exact this
                cases tk with
                | true =>
                  obtain rfl := hy1 rfl
                  clear hy1 hy2
                  go_wp2_with (rw [hW5.out, hxb.out])
                  refine HPUT.out.mono ?_
                  rintro e w6 ⟨rfl, hc6⟩
                  clear a0 a1 a2 a3 d0 d1 d2 d3
                  obtain ⟨a0, a1, a2, a3⟩ := ENT.out _ _ _ hc6 (by simp)
                  have HPE := Lib.hid (cp_peek hc6 (by have := hlp.out; omega) x1)
                  rw [HPK.out] at HPE
                  dsimp only [aggE] at HPE
                  clear hc6
                  go_wp2_with fail
                  refine HPE.out.mono ?_
                  rintro e w7 ⟨rfl, hc7⟩
                  clear a0 a1 a2 a3
                  obtain ⟨a0', a1', a2', a3'⟩ := ENT.out _ _ _ hc7 (by simp)
                  have a0 : ∀ o, (w7.alloc o).cell? ⟨xb, 0, none⟩ = some (.int .i64 x1) := fun o => cell_below (below_alloc w7 o) a0'
                  have a1 : ∀ o, (w7.alloc o).cell? ⟨xb, 1, none⟩ = some (.int .i64 x2) := fun o => cell_below (below_alloc w7 o) a1'
                  have a2 : ∀ o, (w7.alloc o).cell? ⟨xb, 2, none⟩ = some (.int .i64 x3) := fun o => cell_below (below_alloc w7 o) a2'
                  have a3 : ∀ o, (w7.alloc o).cell? ⟨xb, 3, none⟩ = some (.int .i64 x4) := fun o => cell_below (below_alloc w7 o) a3'
                  have HC8 : Hid (CP w (w7.alloc (.cells #[.int .i64 x1, .int .i64 x2, .int .i64 x3, .int .i64 x4] 77)) (qr ++ [(ob, opO p)]) b N L2) := Lib.hid ((hc7.below (below_alloc _ _)).sub (fun q hq => List.mem_cons_of_mem _ hq))
                  clear hc7 a0' a1' a2' a3'
                  have heq := en_eq x1 x2 x3 x4
                  have hg := en_guard
                  go_wp2_with fail
                  go_roundg (Ln - (j + 1))
                  case measure => omega
                  case rel => exact ⟨j + 1, rfl, by omega, by go_num, by rw [HNX.out]; exact HC8.out⟩
                | false =>
                  have hlt3 := hy2 rfl
                  obtain ⟨y1, y2, y3, y4⟩ := y
                  dsimp only at hlt3
                  have hd : decide (y2 ≤ x2) = false := by simp; omega
                  clear hy1 hy2 hlt3
                  go_wp2_with (rw [hW5.out, hxb.out])
                  refine HPUT.out.mono ?_
                  rintro e w6 ⟨rfl, hc6⟩
                  clear a0 a1 a2 a3 d0 d1 d2 d3
                  obtain ⟨a0, a1, a2, a3⟩ := ENT.out _ _ _ hc6 (by simp)
                  have HPE := Lib.hid (cp_peek hc6 (by have := hlp.out; omega) x1)
                  rw [HPK.out] at HPE
                  dsimp only [aggE] at HPE
                  clear hc6
                  go_wp2_with fail
                  refine HPE.out.mono ?_
                  rintro e w7 ⟨rfl, hc7⟩
                  clear a0 a1 a2 a3
                  obtain ⟨a0', a1', a2', a3'⟩ := ENT.out _ _ _ hc7 (by simp)
                  have a0 : ∀ o, (w7.alloc o).cell? ⟨xb, 0, none⟩ = some (.int .i64 x1) := fun o => cell_below (below_alloc w7 o) a0'
                  have a1 : ∀ o, (w7.alloc o).cell? ⟨xb, 1, none⟩ = some (.int .i64 x2) := fun o => cell_below (below_alloc w7 o) a1'
                  have a2 : ∀ o, (w7.alloc o).cell? ⟨xb, 2, none⟩ = some (.int .i64 x3) := fun o => cell_below (below_alloc w7 o) a2'
                  have a3 : ∀ o, (w7.alloc o).cell? ⟨xb, 3, none⟩ = some (.int .i64 x4) := fun o => cell_below (below_alloc w7 o) a3'
                  have HC8 : Hid (CP w (w7.alloc (.cells #[.int .i64 y1, .int .i64 y2, .int .i64 y3, .int .i64 y4] 77)) (qr ++ [(ob, opO p)]) b N L2) := Lib.hid ((hc7.below (below_alloc _ _)).sub (fun q hq => List.mem_cons_of_mem _ hq))
                  clear hc7 a0' a1' a2' a3'
                  skip
                  go_wp2_with fail
                  go_roundg (Ln - (j + 1))
                  case measure => omega
                  case rel => exact ⟨j + 1, rfl, by omega, by go_num, by rw [HNX.out]; exact HC8.out⟩
              · obtain rfl : j = Ln := by omega
                rw [List.take_of_length_le (by rw [hLl.out]; exact Nat.le_refl _)] at hc5
                have HC5 := Lib.hid hc5
                clear hc5
                go_wp2
                go_meet
                exact ⟨_, HC5.out, hge⟩
          · have e0 : (ok == 0) = false := by simpa using k0
            by_cases k1 : ok = 1
            · have e1 : (ok == 1) = true := by simpa using k1
              have HT := Lib.hid (cp_get HC4.out (by omega) oc)
              have hAf : Hid (After L (getL oc L) p N) := Lib.hid ⟨by rw [len_get]; exact hLN, uniq_get hU.out, fun _ => ge_get hU.out⟩
              clear k0 k1
              go_wp2_with fail
              refine HT.out.mono ?_
              rintro e w5 ⟨rfl, hc5⟩
              clear c0 c1 c2 c3 c4
              go_wp2_with fail
              go_meet
              exact ⟨_, hc5, hAf⟩
            · have e1 : (ok == 1) = false := by simpa using k1
              by_cases k3 : ok = 3
              · have e3 : (ok == 3) = true := by simpa using k3
                have HT := Lib.hid (cp_stale HC4.out (by omega) oc ox)
                have hAf : Hid (After L (staleL oc ox L).1 p N) := Lib.hid ⟨Nat.le_trans len_stale hLN, uniq_stale hU.out, fun _ => ge_stale hU.out⟩
                clear k0 k1 k3
                go_wp2_with fail
                refine HT.out.mono ?_
                rintro e w5 ⟨rfl, hc5⟩
                have hsl : (staleL oc ox L).1.length ≤ 100000 := by have := hAf.out.1; omega
                have HPK := Lib.hid (cp_peek hc5 hsl oc)
                have hsp := @stale_peek oc ox L
                obtain ⟨⟨⟨y1, y2, y3, y4⟩, t⟩, hp⟩ : ∃ r, peekL oc (staleL oc ox L).1 = r := ⟨_, rfl⟩
                rw [hp] at HPK hsp
                dsimp only [aggE] at HPK
                clear c0 c1 c2 c3 c4
                obtain ⟨c0, c1, c2, c3, c4⟩ := HCE.out _ _ hc5
                clear hc5 hp
                cases t with
                | false =>
                  clear hsp
                  go_wp2_with fail
                  refine HPK.out.mono ?_
                  rintro e w6 ⟨rfl, hc6⟩
                  have hc7 := Lib.hid ((hc6.alloc (entO (y1, y2, y3, y4))).sub (pr' := qr ++ [(ob, opO p)]) (fun q hq => List.mem_cons_of_mem _ hq))
                  clear hc6 c0 c1 c2 c3 c4
                  go_wp2_with fail
                  go_meet
                  exact ⟨_, hc7.out, hAf⟩
                | true =>
                  have hv := hsp (y := (y1, y2, y3, y4)) rfl
                  dsimp only at hv
                  have hd : decide (y2 < ox) = false := by simp; omega
                  clear hsp
                  go_wp2_with fail
                  refine HPK.out.mono ?_
                  rintro e w6 ⟨rfl, hc6⟩
                  have hc7 := (hc6.alloc (entO (y1, y2, y3, y4))).sub (pr' := qr ++ [(ob, opO p)]) (fun q hq => List.mem_cons_of_mem _ hq)
                  clear hc6 c0 c1 c2 c3 c4
                  obtain ⟨c0, c1, c2, c3, c4⟩ := HCE.out _ _ hc7
                  have HC7 := Lib.hid hc7
                  clear hc7 hv
                  unfold entO at c0 c1 c2 c3 c4
                  dsimp only at c0 c1 c2 c3 c4
                  go_wp2_with fail
                  go_meet
                  exact ⟨_, HC7.out, hAf⟩
              · have e3 : (ok == 3) = false := by simpa using k3
                by_cases k4 : ok = 4
                · have e4 : (ok == 4) = true := by simpa using k4
                  have HT := Lib.hid (cp_drop HC4.out (by omega) CA Cn Cc Cxs (hls.out.2.1.below HC4.out.bel) hls.out.2.2.2)
                  have hAf : Hid (After L (dropL Cxs L) p N) := Lib.hid ⟨Nat.le_trans len_drop hLN, uniq_drop hU.out, fun _ => ge_drop hU.out⟩
                  clear k0 k1 k3 k4
                  go_wp2_with fail
                  refine HT.out.mono ?_
                  rintro e w5 ⟨rfl, hc5⟩
                  clear c0 c1 c2 c3 c4
                  go_wp2_with fail
                  go_meet
                  exact ⟨_, hc5, hAf⟩
                · have e4 : (ok == 4) = false := by simpa using k4
                  have hAf : Hid (After L L p N) := Lib.hid ⟨hLN, hU.out, fun _ => ge_sub hU.out fun y hy => hy⟩
                  clear k0 k1 k3 k4 c0 c1 c2 c3 c4
                  go_wp2_with fail
                  go_meet
                  exact ⟨_, HC4.out, hAf⟩
        case rest =>
          obtain ⟨L', hc5, hAf⟩ := hcut
          obtain ⟨c0, -, -, c3, -⟩ := op_cells (hc5.pr (ob, opO p) (by simp)).1
          rw [HO.out] at c0 c3
          dsimp only at c0 c3
          have hl5 := hAf.out.1
          have HAL5 := Lib.hid (cp_all hc5 (by omega))
          obtain ⟨ln5, hln5⟩ : ∃ x, Hid (L'.length = x) := ⟨_, Lib.hid rfl⟩
          rw [hln5.out] at HAL5 hl5
          have hd5 : decide ((N : Int) < (ln5 : Int)) = false := by simp; omega
          have hd5n : decide (N < ln5) = false := by simp; omega
          clear hc5 c0 c3
          go_wp2_with fail
          refine HAL5.out.mono ?_
          rintro e w6 ⟨A6, cc6, qr6, rfl, hc6', -⟩
          have hc6 := hc6'.sub (pr' := qr ++ [(ob, opO p)]) (fun q hq => List.mem_append_right _ hq)
          obtain ⟨c0, -, -, c3, -⟩ := op_cells (hc6.pr (ob, opO p) (by simp)).1
          rw [HO.out] at c0 c3
          dsimp only at c0 c3
          have HC6 := Lib.hid hc6
          clear hc6 hc6'
          by_cases hcont : ok = 0 ∧ 1 < Ln
          · have e0 : (ok == 0) = true := by simpa using hcont.1
            have d1 : decide ((1 : Int) < (Ln : Int)) = true := by have := hcont.2; simp; omega
            clear hcont
            go_wp2_with fail
            go_roundw
            case rel => exact ⟨k + 1, L', by omega, by go_num, HC6.out.sub (by simp), hAf.out.1, Lib.hid hAf.out.2.1⟩
            case measure => simp [intOf]; omega
          · have hge : Hid (Ge L L') := Lib.hid (hAf.out.2.2 (by
              rw [HO.out]
              dsimp only
              by_cases h : ok = 0
              · right
                have := fun h2 => hcont ⟨h, h2⟩
                omega
              · exact .inl h))
            have hg1 : (ok == 0) = false ∨ ((ok == 0) = true ∧ decide ((1 : Int) < (Ln : Int)) = false) := by
              by_cases h : ok = 0
              · right
                have : ¬ (1 < Ln) := fun h2 => hcont ⟨h, h2⟩
                exact ⟨by simpa using h, by simp; omega⟩
              · left
                simpa using h
            have HL' : Hid (L'.length ≤ 100000) := Lib.hid (by have := hAf.out.1; omega)
            have HLL : Hid (L.length = ln) := hln
            clear hcont
            rcases hg1 with e0 | ⟨e0, d1⟩
            all_goals
              go_wp2_with fail
              clear c0 c3 hd5 hd5n
              go_loopg [141] ln (fun gk i wz => ∃ j : Nat, gk = ln - j ∧ j ≤ ln ∧ i = .int .i64 j ∧ CP w wz (qr ++ [(ob, opO p)]) b N L')
              case atStart => exact ⟨0, rfl, by omega, rfl, HC6.out⟩
              case round =>
                obtain ⟨j, rfl, hj, rfl, hc7⟩ := hrel
                by_cases hlt2 : j < ln
                · have hjl : j < L.length := by have := HLL.out; omega
                  obtain ⟨x, hx⟩ : ∃ x : Ent, Hid (L[j] = x) := ⟨_, Lib.hid rfl⟩
                  obtain ⟨xb0, xo, hA, d0, d1, d2, d3⟩ := ent_at (HRD.out wr (fun q hq => (hc7.pr q (by simp [hq])).1)) j hlt2 hjl x hx.out
                  subst hA
                  obtain ⟨xb, hxb⟩ : ∃ xb, Hid (wr.heap.size = xb) := ⟨_, Lib.hid rfl⟩
                  obtain ⟨W5, hW5⟩ : ∃ W5, Hid (wr.alloc (entO x) = W5) := ⟨_, Lib.hid rfl⟩
                  obtain ⟨x', HX'⟩ : ∃ x' : Ent, Hid (x' = x) := ⟨_, Lib.hid rfl⟩
                  have hcW : CP w W5 ((xb, entO x') :: (qr ++ [(ob, opO p)])) b N L' := by
                    have := hc7.alloc (entO x)
                    rw [hW5.out, hxb.out] at this
                    rw [HX'.out]
                    exact this
                  have hgx : Hid (∀ y, peekL x.1 L' = (y, true) → x.2.1 ≤ y.2.1) := Lib.hid fun y hy => ge_peek hge.out (by rw [← hx.out]; exact List.getElem_mem _) hy
                  have H5 := hcW.pr (xb, entO x') (by simp)
                  obtain ⟨a0, a1, -, -⟩ := ent_cells H5.1
                  rw [HX'.out] at a0 a1
                  have hpe := cp_peek hcW HL'.out x.1
                  obtain ⟨⟨⟨y1, y2, y3, y4⟩, t⟩, hp⟩ : ∃ r, peekL x.1 L' = r := ⟨_, rfl⟩
                  rw [hp] at hpe
                  have hgy : Hid (t = true → x.2.1 ≤ y2) := Lib.hid fun ht => hgx.out (y1, y2, y3, y4) (by rw [hp, ht])
                  clear hc7 hcW H5 hp hx hgx
                  obtain ⟨x1, x2, x3, x4⟩ := x
                  dsimp only [aggE] at d0 d1 d2 d3 a0 a1 hpe hgy
                  have HPE := Lib.hid hpe
                  clear hpe
                  unfold entO at hW5
                  dsimp only at hW5
                  have ENT : Hid (∀ wx, CP w wx ((xb, entO x') :: (qr ++ [(ob, opO p)])) b N L' → wx.cell? ⟨xb, 0, none⟩ = some (.int .i64 x1) ∧ wx.cell? ⟨xb, 1, none⟩ = some (.int .i64 x2)) := Lib.hid fun wx h => by
                    have := ent_cells (h.pr (xb, entO x') (by simp)).1
                    rw [HX'.out] at this
                    exact ⟨this.1, this.2.1⟩
                  go_wp2_with (rw [hW5.out, hxb.out])
                  refine HPE.out.mono ?_
                  rintro e w7 ⟨rfl, hc8⟩
                  clear a0 a1 d0 d1 d2 d3
                  obtain ⟨a0', a1'⟩ := ENT.out _ hc8
                  have a1 : ∀ o, (w7.alloc o).cell? ⟨xb, 1, none⟩ = some (.int .i64 x2) := fun o => cell_below (below_alloc w7 o) a1'
                  have HC8 : Hid (CP w (w7.alloc (.cells #[.int .i64 y1, .int .i64 y2, .int .i64 y3, .int .i64 y4] 77)) (qr ++ [(ob, opO p)]) b N L') := Lib.hid ((hc8.below (below_alloc _ _)).sub (fun q hq => List.mem_cons_of_mem _ hq))
                  clear hc8 a0' a1'
                  cases t with
                  | false =>
                    go_wp2_with fail
                    go_roundg (ln - (j + 1))
                    case measure => omega
                    case rel => exact ⟨j + 1, rfl, by omega, by go_num, HC8.out⟩
                  | true =>
                    have hxy := hgy.out rfl
                    have hd : decide (y2 < x2) = false := by simp; omega
                    clear hxy
                    go_wp2_with fail
                    go_roundg (ln - (j + 1))
                    case measure => omega
                    case rel => exact ⟨j + 1, rfl, by omega, by go_num, HC8.out⟩
                · obtain rfl : j = ln := by omega
                  have HC7 := Lib.hid hc7
                  clear hc7
                  go_wp2
                  go_roundw
                  case rel => exact ⟨k + 1, L', by omega, by go_num, HC7.out.sub (by simp), hAf.out.1, Lib.hid hAf.out.2.1⟩
                  case measure => simp [intOf]; omega
      · obtain rfl : k = n := by omega
        have HB := Lib.hid hcp.bel
        clear hcp
        go_wp2
        go_ret
        exact ⟨rfl, HB.out⟩
theorem keeps_row (w : World) (a : Int) (s : Sl OpR) (ha : (Lit.int .u8 a).wf = true) (hs : SlOk w 5 72 encOp (goodOp w) s) :
    Calls Try.prog 12 #[.int .u8 a, .slice s.A s.n s.c] w fun e w' => e = .returned (.bool true) ∧ Below w.heap.size w w' := by
  have h1 := bounds_u8 ha
  obtain ⟨m, rfl⟩ : ∃ k : Nat, a = (k : Int) := ⟨a.toNat, by omega⟩
  exact keeps_walk w m (by omega) s.A s.n s.c s.xs (script_of hs)
end Go.Proofs.Ytbdcgfdchkbcnaa.Ca

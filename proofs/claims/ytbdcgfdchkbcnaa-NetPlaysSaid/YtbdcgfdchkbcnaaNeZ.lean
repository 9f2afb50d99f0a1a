/- net: the law NetPlays. -/
import Derived.Test.YtbdcgfdchkbcnaaNeY
namespace Go.Proofs.Ytbdcgfdchkbcnaa.Ne
open Go.RowKit Go.Proofs.Ytbdcgfdchkbcnaa.L Go.Proofs.Ytbdcgfdchkbcnaa.O Go.Proofs.Ytbdcgfdchkbcnaa.R Go.Proofs.Ytbdcgfdchkbcnaa.A Go.Proofs.Ytbdcgfdchkbcnaa.S Go.Proofs.Ytbdcgfdchkbcnaa.T Go.Proofs.Ytbdcgfdchkbcnaa.C Go.Proofs.Ytbdcgfdchkbcnaa.G Go.Proofs.Ytbdcgfdchkbcnaa.E
set_option linter.unusedVariables false
set_option linter.unusedSimpArgs false

theorem runs_assign {P : Program} {ops : Array Oper} {o : Oper} {a : Act} {w : World} {K : Act → World → Prop} (hw : Region.wanted o (yielded ops a.tmps) = true) (x : Operand) (ho : o.op = .assign x) (v : Value) (hx : a.eval x = v) (h : K (a.put o.dst v) w) : Runs P ops o a w K :=
  .of_wp hw (by
    unfold Oper.wp execOp
    simp only [ho, hx, Sem.run_pure]
    exact h)
theorem eval_putAll {a0 : Act} {vs : Nat → Value} {l : List (Nat × Tmp)} {t j : Nat} {v : Value} (ht : t < a0.tmps.size) (hm : (j, t) ∈ l) (hu : ∀ k, (k, t) ∈ l → k = j) (hv : vs j = v) : (putAll a0 vs l).eval (.tmp t) = v := by
  have h := putAll_some a0 vs t j ht l hm hu
  simp only [Act.eval, Array.getD_eq_getD_getElem?, h, Option.getD_some, hv]
theorem runs_neq {ops : Array Oper} {o : Oper} {a : Act} {w : World} {K : Act → World → Prop} (hw : Region.wanted o (yielded ops a.tmps) = true) (x y : Operand) (ho : o.op = .binOp .neq 3 x y 3) (v : Int) (hx : a.eval x = .int .i64 v) (hy : a.eval y = .int .i64 v) (h : K (a.put o.dst (.bool false)) w) : Runs Try.prog ops o a w K :=
  .of_wp hw (by
    unfold Oper.wp execOp
    simp only [ho, hx, hy]
    go_simp
    exact h)
theorem runs_xor {ops : Array Oper} {o : Oper} {a : Act} {w : World} {K : Act → World → Prop} (hw : Region.wanted o (yielded ops a.tmps) = true) (x y : Operand) (ho : o.op = .binOp .xor 3 x y 3) (u v r : Int) (hx : a.eval x = .int .i64 u) (hy : a.eval y = .int .i64 v) (hr : bits .xor .i64 u v = r) (h : K (a.put o.dst (.int .i64 r)) w) : Runs Try.prog ops o a w K :=
  .of_wp hw (by
    subst hr
    unfold Oper.wp execOp
    simp only [ho, hx, hy]
    go_simp
    exact h)
theorem runs_byte {ops : Array Oper} {o : Oper} {a : Act} {w : World} {K : Act → World → Prop} (hw : Region.wanted o (yielded ops a.tmps) = true) (x : Operand) (ho : o.op = .convert 3 5 x) (u r : Int) (hx : a.eval x = .int .i64 u) (hr : IntKind.u8.wrap u = r) (h : K (a.put o.dst (.int .u8 r)) w) : Runs Try.prog ops o a w K :=
  .of_wp hw (by
    subst hr
    unfold Oper.wp execOp
    simp only [ho, hx]
    first
      | (go_simp; exact h)
      | (rw [IntKind.wrap_u8] at h; go_simp; exact h))
def PlL (w wr : World) (b mb d N k : Nat) (L : List Pkt) : Prop :=
  ∃ (nn : Nat) (f : Int → Int → Bool) (cs : List (Int × Int)), TN w wr [] b mb N nn f L d L cs ∧ nn ≤ k ∧ cs.length ≤ k ∧ Coh f cs ∧ ∀ y ∈ L, goodP y
theorem sendL_len256 (N : Nat) (f : Int → Int → Bool) : ∀ (ps L : List Pkt), L.length ≤ 256 → (sendL N f ps L).1.length ≤ 256
  | [], L, h => by simpa [sendL] using h
  | p :: ps, L, h => by
    unfold sendL
    split
    · rename_i hc
      refine sendL_len256 N f ps _ ?_
      simp at hc
      rw [List.length_append]
      simp
      omega
    · exact sendL_len256 N f ps L h
theorem sendL_good (N : Nat) (f : Int → Int → Bool) : ∀ (ps L : List Pkt), (∀ y ∈ L, goodP y) → (∀ y ∈ ps, goodP y) → ∀ y ∈ (sendL N f ps L).1, goodP y
  | [], L, h, h2 => by simpa [sendL] using h
  | p :: ps, L, h, h2 => by
    unfold sendL
    split
    · exact sendL_good N f ps _ (fun y hy => by
        rcases List.mem_append.1 hy with hy | hy
        · exact h y hy
        · simp at hy; rw [hy]; exact h2 p (by simp)) (fun y hy => h2 y (by simp [hy]))
    · exact sendL_good N f ps L h (fun y hy => h2 y (by simp [hy]))
set_option maxHeartbeats 16000000 in
set_option maxRecDepth 100000 in
theorem plays_walk (w : World) (room : Int) (A : Option Addr) (n c : Nat) (ops : List OpN) (hsc : NScript w A n ops) :
    Calls Try.prog 5 #[.int .i64 room, .slice A n c] w fun e w' => e = .returned (.bool true) ∧ Below w.heap.size w w' := by
  have hn9 := hsc.rd.2.1
  have HS := Lib.hid hsc
  have HL := Lib.hid hsc.len
  have HA := Lib.hid (awake_any w)
  obtain ⟨gr, hgr⟩ : ∃ gr, Hid (greatN ops = gr) := ⟨_, Lib.hid rfl⟩
  have HG : Hid (∀ w1, Below w.heap.size w w1 → Calls Try.prog 20 #[.slice A n c] w1 fun e w' => e = .returned (.bool gr) ∧ Below w1.heap.size w1 w') := Lib.hid fun w1 hb => by
    rw [← hgr.out]; exact great_many A n c ops w1 (hsc.below hb)
  clear hsc
  go_enter Try.func5, Try.ntmps5
  go_wp2_with fail
  refine HA.out.mono ?_
  rintro e w1 ⟨rfl, hb1⟩
  have HB1 := Lib.hid hb1
  clear hb1
  by_cases hbad : room < 1 ∨ 16 < room
  · have HX1 := Lib.hid (net_bad room w1 hbad)
    have HX2 := Lib.hid (dnew_bad room w1 hbad)
    clear hbad
    go_wp2_with fail
    refine HX1.out.mono ?_
    rintro e w2 ⟨rfl, rfl⟩
    go_wp2_with fail
    refine HX2.out.mono ?_
    rintro e w3 ⟨rfl, rfl⟩
    go_wp2
    go_ret
    exact ⟨rfl, HB1.out⟩
  · obtain ⟨N, rfl⟩ : ∃ N : Nat, room = (N : Int) := ⟨room.toNat, by omega⟩
    have hN1 : 0 < N := by omega
    have hN2 : N ≤ 16 := by omega
    clear hbad
    have HX1 := Lib.hid (net_new N w1 hN1 hN2)
    have HX2 : Hid (∀ w2, Calls Try.prog 25 #[.int .i64 N] w2 fun e w' => e = .returned (.pointer (some ⟨w2.heap.size, 0, none⟩)) ∧ Dd w' w2.heap.size N (.slice none 0 0) [] (.slice none 0 0) [] ∧ Below w2.heap.size w2 w') := Lib.hid fun w2 => dnew_ok N w2 hN1 hN2
    obtain ⟨mb, hmb⟩ : ∃ mb, Hid (w1.heap.size = mb) := ⟨_, Lib.hid rfl⟩
    obtain ⟨b, hbb⟩ : ∃ b, Hid (mb + 1 = b) := ⟨_, Lib.hid rfl⟩
    rw [hmb.out, hbb.out] at HX1
    go_wp2_with fail
    refine HX1.out.mono ?_
    rintro e w2 ⟨rfl, hN, hb2⟩
    have HN2 := Lib.hid (And.intro hN hb2)
    clear hN hb2
    obtain ⟨d, hd⟩ : ∃ d, Hid (w2.heap.size = d) := ⟨_, Lib.hid rfl⟩
    have HX3 := Lib.hid (HX2.out w2)
    rw [hd.out] at HX3
    go_wp2_with fail
    refine HX3.out.mono ?_
    rintro e w3 ⟨rfl, hD, hb3⟩
    have HTN : Hid (TN w w3 [] b mb N 0 (fun _ _ => false) [] d [] []) := Lib.hid (by
      rw [← hd.out] at hD hb3 ⊢
      have h2 := HN2.out.2
      rw [← hmb.out] at h2
      exact TN.start (below2 HB1.out h2) HN2.out.1 (by rw [← hmb.out]; exact HB1.out.size) hD hb3)
    clear hD hb3
    have HG3 := Lib.hid (HG.out w3 HTN.out.bel)
    go_wp2_with fail
    refine HG3.out.mono ?_
    rintro e w4 ⟨rfl, hb4⟩
    have HT4 := Lib.hid (HTN.out.below hb4)
    clear hb4
    cases gr with
    | true =>
      go_wp2
      go_ret
      exact ⟨rfl, HT4.out.bel⟩
    | false =>
      have hgd : Hid (n ≤ 80 ∧ sumN ops ≤ 400) := Lib.hid (by
        have := hgr.out
        simp only [greatN, Bool.or_eq_false_iff, decide_eq_false_iff_not] at this
        rw [HL.out] at this
        omega)
      go_wp2
      go_loopw [43] (fun i wr => ∃ (k : Nat) (L : List Pkt), k ≤ n ∧ i = .int .i64 k ∧ Hid (PlL w wr b mb d N k L) ∧ L.length ≤ 256) (fun i _ => n - (intOf i).toNat)
      case atStart => exact ⟨0, [], by omega, rfl, Lib.hid ⟨0, _, [], HT4.out, Nat.le_refl _, Nat.le_refl _, Coh.none, by simp⟩, by simp⟩
      case round =>
        obtain ⟨k, L, hkn, rfl, hpl, hL256⟩ := hrel
        by_cases hlt : k < n
        · have hkl : k < ops.length := by have := HL.out; omega
          obtain ⟨o, ho⟩ : ∃ o, Hid (ops[k] = o) := ⟨_, Lib.hid rfl⟩
          obtain ⟨nn, f, cs, htn, hnn, hcsk, hcoh, hgl⟩ := hpl.out
          have hsw := HS.out.below htn.bel
          obtain ⟨ab, ff, hA, c0, c1, c2, c3⟩ := hsw.at k hlt hkl o ho.out
          have hls := Lib.hid (HS.out.ls o (by rw [← ho.out]; exact List.getElem_mem _))
          subst hA
          obtain ⟨ob, hob⟩ : ∃ ob, Hid (wr.heap.size = ob) := ⟨_, Lib.hid rfl⟩
          obtain ⟨W, hW⟩ : ∃ W, Hid (wr.alloc (opO o) = W) := ⟨_, Lib.hid rfl⟩
          obtain ⟨p, HO⟩ : ∃ p, Hid (p = o) := ⟨_, Lib.hid rfl⟩
          have HLN : Hid (o.L.n ≤ 400) := Lib.hid (by
            have h2 := sumN_le ops (k + 1)
            have h3 := sumN_take k hkl
            rw [ho.out] at h3
            have := hgd.out
            omega)
          have HNP : Hid (TN w W [(ob, opO p)] b mb N nn f L d L cs) := Lib.hid (by
            have := htn.alloc (opO o)
            rw [hW.out, hob.out] at this
            rw [HO.out]
            exact this)
          have HQ := Lib.hid (And.intro hnn (And.intro hcsk (And.intro hcoh hgl)))
          have hnn9 : nn < 1000000 := by have := hgd.out; omega
          have hcs9 : cs.length ≤ 1000000 := by have := hgd.out; omega
          have HBN := Lib.hid (And.intro hnn9 hcs9)
          clear hsw htn ho hpl hnn hcsk hcoh hgl hnn9 hcs9
          obtain ⟨ok, oa, oB, ⟨LA, Ln, Lc, Lxs⟩⟩ := o
          dsimp only at c0 c1 c2 c3 hls HLN
          unfold opO at hW
          dsimp only at hW
          go_upto_block 2 with (fail)
          rw [hW.out, hob.out]
          clear c0 c1 c2 c3
          go_cut [10, 11, 49] (fun s10 s11 s49 wx => ∃ (r : Int) (L' : List Pkt), s10 = .int .i64 r ∧ s11 = .int .i64 r ∧ Hid (PlL w wx b mb d N (k + 1) L') ∧ L'.length ≤ 256)
          case first =>
            have HCE : Hid (∀ wx nn' f' L1 L2 cs', TN w wx [(ob, opO p)] b mb N nn' f' L1 d L2 cs' → wx.cell? ⟨ob, 0, none⟩ = some (.int .i64 ok) ∧ wx.cell? ⟨ob, 1, none⟩ = some (.int .i64 oa) ∧ wx.cell? ⟨ob, 2, none⟩ = some (.int .i64 oB) ∧ wx.cell? ⟨ob, 3, none⟩ = some (.slice LA Ln Lc)) := Lib.hid fun wx nn' f' L1 L2 cs' h => by
              have := op_cells (h.pr (ob, opO p) (by simp)).1
              rw [HO.out] at this
              exact this
            obtain ⟨c0, c1, c2, c3⟩ := HCE.out _ _ _ _ _ _ HNP.out
            have HFIN : ∀ nn' f' LX cs', nn' ≤ nn + 1 → cs'.length ≤ cs.length + 1 → Coh f' cs' → (∀ y ∈ LX, goodP y) → LX.length ≤ 256 → Hid (∀ wx, TN w wx [(ob, opO p)] b mb N nn' f' LX d LX cs' → Hid (PlL w wx b mb d N (k + 1) LX) ∧ LX.length ≤ 256) := fun nn' f' LX cs' h1 h2 h3 h4 h5 => Lib.hid fun wx h => ⟨Lib.hid ⟨nn', f', cs', h.sub (by simp), by have := HQ.out.1; omega, by have := HQ.out.2.1; omega, h3, h4⟩, h5⟩
            by_cases k0 : ok = 0
            · have e0 : (ok == 0) = true := by simpa using k0
              as_aux_lemma =>
                have hLl : Hid (Lxs.length = Ln) := Lib.hid (by have := hls.out.1.1; simpa using this)
                have hlen2 := sendL_len256 N f Lxs L hL256
                have hgood2 := sendL_good N f Lxs L HQ.out.2.2.2 hls.out.2.1
                obtain ⟨LX, hLX⟩ : ∃ LX, (sendL N f Lxs L).1 = LX := ⟨_, rfl⟩
                obtain ⟨lost, hlo⟩ : ∃ lost, (sendL N f Lxs L).2 = lost := ⟨_, rfl⟩
                have HC1 : Hid (∀ W, TN w W [(ob, opO p)] b mb N nn f L d L cs → Calls Try.prog 17 #[.pointer (some ⟨b, 0, none⟩), .slice LA Ln Lc] W fun e w' => e = .returned (.int .i64 (lost : Int)) ∧ TN w w' [(ob, opO p)] b mb N nn f LX d L cs) := Lib.hid fun W h => by
                  have := tn_send h h.lo hL256 LA Ln Lc Lxs (hls.out.1.below h.bel) hls.out.2.1 hls.out.2.2.2.1
                  rw [hlo, hLX] at this
                  exact this.mono fun e w' ⟨⟨h1, _⟩, h2⟩ => ⟨h1, h2⟩
                have HC2 : Hid (∀ W A' c', TN w W [(ob, opO p)] b mb N nn f LX d L cs → RdE W A' Ln 4 (Lxs.map encP) → (0 < Ln → ∀ o, A' = some o → o.block ≠ d) → Calls Try.prog 26 #[.pointer (some ⟨d, 0, none⟩), .slice A' Ln c'] W fun e w' => e = .returned (.int .i64 (lost : Int)) ∧ TN w w' [(ob, opO p)] b mb N nn f LX d LX cs) := Lib.hid fun W A' c' h h1 h2 => by
                  have := tn_dsend h hL256 HBN.out.2 HQ.out.2.2.1 A' Ln c' Lxs h1 h2
                  rw [hlo, hLX] at this
                  exact this
                have HPL : Hid (∀ W, TN w W [(ob, opO p)] b mb N nn f LX d L cs → Calls Try.prog 27 #[.slice LA Ln Lc] W fun e w' => ∃ A' c', e = .returned (.slice A' Ln c') ∧ RdE w' A' Ln 4 (Lxs.map encP) ∧ Below W.heap.size W w' ∧ (0 < Ln → ∀ o, A' = some o → o.block ≠ d)) := Lib.hid fun W h => by
                  refine (plain_pkts LA Ln Lc Lxs W (hls.out.1.below h.bel) (by have := HLN.out; omega)).mono ?_
                  rintro e w' ⟨v, rfl, ho, hb⟩
                  obtain ⟨A', c', rfl, hr', hA', -⟩ := own_rdE ho encP_len hLl.out
                  exact ⟨A', c', rfl, hr', hb, fun _ o hA => by have := hA' o hA; have := h.dlt; omega⟩
                rw [hLX] at hlen2 hgood2
                have HF2 := HFIN nn f LX cs (by omega) (by omega) HQ.out.2.2.1 hgood2 hlen2
                have hS0 : TN w W.drew [(ob, opO p)] b mb N nn f L d L cs := HNP.out.below (below_drewN 1 W)
                clear k0 hLX hlo hlen2 hgood2 HFIN
                go_wp2_with fail
                clear c0 c1 c2 c3
                refine wp_region_done (fun dnf => fun W => TN w W [(ob, opO p)] b mb N nn f (if (dnf 3) then LX else L) d (if (dnf 8) then LX else L) cs) (fun _ _ => True) (fun k u v => (k = 3 → (fun _ _ => True) u v) ∧ (k = 8 → (fun _ _ => True) u v) ∧ (¬ k = 3 → ¬ k = 8 → (fun u v => Below u.heap.size u v) u v)) (fun a i => match i with
                    | 0 => (fun v _ => v = .pointer (some ⟨b, 0, none⟩))
                    | 1 => (fun v _ => v = .pointer (some ⟨ob, 3, none⟩))
                    | 2 => (fun v _ => v = .slice LA Ln Lc)
                    | 3 => (fun v _ => v = .int .i64 (lost : Int))
                    | 4 => (fun v _ => v = .pointer (some ⟨d, 0, none⟩))
                    | 5 => (fun v _ => v = .pointer (some ⟨ob, 3, none⟩))
                    | 6 => (fun v _ => v = .slice LA Ln Lc)
                    | 7 => (fun v W => ∃ A c, v = .slice A Ln c ∧ RdE W A Ln 4 (Lxs.map encP) ∧ (0 < Ln → ∀ o, A = some o → o.block ≠ d))
                    | 8 => (fun v _ => v = .int .i64 (lost : Int))
                    | 9 => (fun v _ => v = .bool false)
                    | _ => (fun _ _ => True)) #[0, 0, 2, 7, 0, 0, 32, 111, 255, 511] #[0, 0, 2, 5, 0, 0, 32, 64, 144, 264] 895 (by kernel_rfl) 10 rfl (fun m hm => by subst hm; kernel_rfl) (by kernel_rfl) (fun w => trivial) (fun u v w h1 h2 => trivial) ?_ ?_ (hS0) ?_ ?_
                · intro k u v hk hr
                  by_cases hs3 : k = 3
                  · have h := hr.1 hs3; exact trivial
                  by_cases hs8 : k = 8
                  · have h := hr.2.1 hs8; exact trivial
                  have h := hr.2.2 hs3 hs8; exact trivial
                · intro i hi
                  rcases (by omega : i = 0 ∨ i = 1 ∨ i = 2 ∨ i = 3 ∨ i = 4 ∨ i = 5 ∨ i = 6 ∨ i = 7 ∨ i = 8 ∨ i = 9) with rfl | rfl | rfl | rfl | rfl | rfl | rfl | rfl | rfl | rfl
                  · intro k hk y hy hyt v w w' h hr
                    exact h
                  · intro k hk y hy hyt v w w' h hr
                    exact h
                  · intro k hk y hy hyt v w w' h hr
                    exact h
                  · intro k hk y hy hyt v w w' h hr
                    exact h
                  · intro k hk y hy hyt v w w' h hr
                    exact h
                  · intro k hk y hy hyt v w w' h hr
                    exact h
                  · intro k hk y hy hyt v w w' h hr
                    exact h
                  · intro k hk y hy hyt v w w' h hr
                    by_cases hs3 : k = 3
                    · have hr0 := hr.1 hs3
                      subst hs3
                      exact absurd (hy.trans hyt) (ne_true_of_eq_false (by kernel_rfl))
                    by_cases hs8 : k = 8
                    · have hr0 := hr.2.1 hs8
                      subst hs8
                      exact absurd (hy.trans hyt) (ne_true_of_eq_false (by kernel_rfl))
                    have hr := hr.2.2 hs3 hs8
                    obtain ⟨A, c, h1, h2, h3⟩ := h; exact ⟨A, c, h1, h2.below hr, h3⟩
                  · intro k hk y hy hyt v w w' h hr
                    exact h
                  · intro k hk y hy hyt v w w' h hr
                    exact h
                · intro i hi
                  rcases (by omega : i = 0 ∨ i = 1 ∨ i = 2 ∨ i = 3 ∨ i = 4 ∨ i = 5 ∨ i = 6 ∨ i = 7 ∨ i = 8 ∨ i = 9) with rfl | rfl | rfl | rfl | rfl | rfl | rfl | rfl | rfl | rfl
                  · -- 0: Op.move (Operand.tmp 5)
                    intro l hl vs W dn e1 e2 e3 hS hR hp
                    have f3 : dn 3 = false := e3 3 (by kernel_rfl)
                    have f8 : dn 8 = false := e3 8 (by kernel_rfl)
                    replace hS : (fun W => TN w W [(ob, opO p)] b mb N nn f (if (dn 3) then LX else L) d (if (dn 8) then LX else L) cs) W := hS
                    rw [f3, f8] at hS
                    have g3 : (dn 3 || ((0 : Nat) == 3)) = false := by rw [f3]; rfl
                    have g8 : (dn 8 || ((0 : Nat) == 8)) = false := by rw [f8]; rfl
                    refine OpGoal.imp (S1 := fun W => TN w W [(ob, opO p)] b mb N nn f (if false then LX else L) d (if false then LX else L) cs) (fun W' h => ?_) ?_
                    · show (fun W => TN w W [(ob, opO p)] b mb N nn f (if (dn 3 || ((0 : Nat) == 3)) then LX else L) d (if (dn 8 || ((0 : Nat) == 8)) then LX else L) cs) W'
                      rw [g3, g8]
                      exact h
                    clear g3 g8 e1 e2 e3
                    obtain rfl : l = [] := hl.symm.trans (by kernel_rfl)
                    clear hp hl
                    refine opgoal (_) (some 51) rfl rfl fun K hK => ?_
                    refine Runs.mk ?_
                    simp only [putAll]
                    go_simp
                    refine hK _ _ ?_ hS ⟨fun h => absurd h (by decide), fun h => absurd h (by decide), fun h3 h8 => ((fun w => Below.refl _ w) W)⟩ _ rfl rfl
                    first | rfl | go_simp | simp
                  · -- 1: Op.fieldAddr 39 (Operand.tmp 9) 3
                    intro l hl vs W dn e1 e2 e3 hS hR hp
                    have f3 : dn 3 = false := e3 3 (by kernel_rfl)
                    have f8 : dn 8 = false := e3 8 (by kernel_rfl)
                    replace hS : (fun W => TN w W [(ob, opO p)] b mb N nn f (if (dn 3) then LX else L) d (if (dn 8) then LX else L) cs) W := hS
                    rw [f3, f8] at hS
                    have g3 : (dn 3 || ((1 : Nat) == 3)) = false := by rw [f3]; rfl
                    have g8 : (dn 8 || ((1 : Nat) == 8)) = false := by rw [f8]; rfl
                    refine OpGoal.imp (S1 := fun W => TN w W [(ob, opO p)] b mb N nn f (if false then LX else L) d (if false then LX else L) cs) (fun W' h => ?_) ?_
                    · show (fun W => TN w W [(ob, opO p)] b mb N nn f (if (dn 3 || ((1 : Nat) == 3)) then LX else L) d (if (dn 8 || ((1 : Nat) == 8)) then LX else L) cs) W'
                      rw [g3, g8]
                      exact h
                    clear g3 g8 e1 e2 e3
                    obtain rfl : l = [] := hl.symm.trans (by kernel_rfl)
                    clear hp hl
                    refine opgoal (_) (some 52) rfl rfl fun K hK => ?_
                    refine Runs.mk ?_
                    simp only [putAll]
                    go_simp
                    refine hK _ _ ?_ hS ⟨fun h => absurd h (by decide), fun h => absurd h (by decide), fun h3 h8 => ((fun w => Below.refl _ w) W)⟩ _ rfl rfl
                    first | rfl | go_simp | simp
                  · -- 2: Op.load 22 (Operand.tmp 52)
                    intro l hl vs W dn e1 e2 e3 hS hR hp
                    have f3 : dn 3 = false := e3 3 (by kernel_rfl)
                    have f8 : dn 8 = false := e3 8 (by kernel_rfl)
                    replace hS : (fun W => TN w W [(ob, opO p)] b mb N nn f (if (dn 3) then LX else L) d (if (dn 8) then LX else L) cs) W := hS
                    rw [f3, f8] at hS
                    have g3 : (dn 3 || ((2 : Nat) == 3)) = false := by rw [f3]; rfl
                    have g8 : (dn 8 || ((2 : Nat) == 8)) = false := by rw [f8]; rfl
                    refine OpGoal.imp (S1 := fun W => TN w W [(ob, opO p)] b mb N nn f (if false then LX else L) d (if false then LX else L) cs) (fun W' h => ?_) ?_
                    · show (fun W => TN w W [(ob, opO p)] b mb N nn f (if (dn 3 || ((2 : Nat) == 3)) then LX else L) d (if (dn 8 || ((2 : Nat) == 8)) then LX else L) cs) W'
                      rw [g3, g8]
                      exact h
                    clear g3 g8 e1 e2 e3
                    obtain rfl : l = [(1, 52)] := hl.symm.trans (by kernel_rfl)
                    have p1 : vs 1 = _ := hp 1 (by decide) (by decide)
                    clear hp hl
                    refine opgoal (_) (some 53) rfl rfl fun K hK => ?_
                    obtain ⟨f0, f1, f2, f3⟩ := HCE.out _ _ _ _ _ _ hS
                    refine Runs.mk ?_
                    simp only [putAll]
                    go_simp
                    refine hK _ _ ?_ hS ⟨fun h => absurd h (by decide), fun h => absurd h (by decide), fun h3 h8 => ((fun w => Below.refl _ w) W)⟩ _ rfl rfl
                    first | rfl | go_simp | simp
                  · -- 3: Op.call { callee := Callee.value (Operand.func 17), args := #[Operand.tmp 51, Operand.tmp 53], argTypes := #[24, 22] }
                    intro l hl vs W dn e1 e2 e3 hS hR hp
                    have f3 : dn 3 = false := e1
                    have f8 : dn 8 = false := e3 8 (by kernel_rfl)
                    replace hS : (fun W => TN w W [(ob, opO p)] b mb N nn f (if (dn 3) then LX else L) d (if (dn 8) then LX else L) cs) W := hS
                    rw [f3, f8] at hS
                    have g3 : (dn 3 || ((3 : Nat) == 3)) = true := by rw [f3]; rfl
                    have g8 : (dn 8 || ((3 : Nat) == 8)) = false := by rw [f8]; rfl
                    refine OpGoal.imp (S1 := fun W => TN w W [(ob, opO p)] b mb N nn f (if true then LX else L) d (if false then LX else L) cs) (fun W' h => ?_) ?_
                    · show (fun W => TN w W [(ob, opO p)] b mb N nn f (if (dn 3 || ((3 : Nat) == 3)) then LX else L) d (if (dn 8 || ((3 : Nat) == 8)) then LX else L) cs) W'
                      rw [g3, g8]
                      exact h
                    clear g3 g8 e1 e2 e3
                    obtain rfl : l = [(0, 51), (1, 52), (2, 53)] := hl.symm.trans (by kernel_rfl)
                    have p0 : vs 0 = _ := hp 0 (by decide) (by decide)
                    have p2 : vs 2 = _ := hp 2 (by decide) (by decide)
                    clear hp hl
                    refine opgoal (_) (some 54) rfl rfl fun K hK => ?_
                    refine Runs.mk ?_
                    simp only [putAll]
                    go_simp
                    refine (HC1.out W hS).mono ?_
                    rintro e w' ⟨rfl, hn⟩
                    go_simp
                    exact hK _ _ rfl hn ⟨(fun _ => trivial), (fun h => absurd h (by decide)), fun h1 h2 => absurd rfl h1⟩ _ rfl rfl
                  · -- 4: Op.move (Operand.tmp 7)
                    intro l hl vs W dn e1 e2 e3 hS hR hp
                    have f3 : dn 3 = dn 3 := rfl
                    have f8 : dn 8 = false := e3 8 (by kernel_rfl)
                    replace hS : (fun W => TN w W [(ob, opO p)] b mb N nn f (if (dn 3) then LX else L) d (if (dn 8) then LX else L) cs) W := hS
                    rw [f8] at hS
                    have g3 : (dn 3 || ((4 : Nat) == 3)) = dn 3 := Bool.or_false _
                    have g8 : (dn 8 || ((4 : Nat) == 8)) = false := by rw [f8]; rfl
                    refine OpGoal.imp (S1 := fun W => TN w W [(ob, opO p)] b mb N nn f (if (dn 3) then LX else L) d (if false then LX else L) cs) (fun W' h => ?_) ?_
                    · show (fun W => TN w W [(ob, opO p)] b mb N nn f (if (dn 3 || ((4 : Nat) == 3)) then LX else L) d (if (dn 8 || ((4 : Nat) == 8)) then LX else L) cs) W'
                      rw [g3, g8]
                      exact h
                    clear g3 g8 e1 e2 e3
                    obtain rfl : l = [] := hl.symm.trans (by kernel_rfl)
                    clear hp hl
                    refine opgoal (_) (some 55) rfl rfl fun K hK => ?_
                    refine Runs.mk ?_
                    simp only [putAll]
                    go_simp
                    refine hK _ _ ?_ hS ⟨fun h => absurd h (by decide), fun h => absurd h (by decide), fun h3 h8 => ((fun w => Below.refl _ w) W)⟩ _ rfl rfl
                    first | rfl | go_simp | simp
                  · -- 5: Op.fieldAddr 39 (Operand.tmp 9) 3
                    intro l hl vs W dn e1 e2 e3 hS hR hp
                    have f3 : dn 3 = dn 3 := rfl
                    have f8 : dn 8 = false := e3 8 (by kernel_rfl)
                    replace hS : (fun W => TN w W [(ob, opO p)] b mb N nn f (if (dn 3) then LX else L) d (if (dn 8) then LX else L) cs) W := hS
                    rw [f8] at hS
                    have g3 : (dn 3 || ((5 : Nat) == 3)) = dn 3 := Bool.or_false _
                    have g8 : (dn 8 || ((5 : Nat) == 8)) = false := by rw [f8]; rfl
                    refine OpGoal.imp (S1 := fun W => TN w W [(ob, opO p)] b mb N nn f (if (dn 3) then LX else L) d (if false then LX else L) cs) (fun W' h => ?_) ?_
                    · show (fun W => TN w W [(ob, opO p)] b mb N nn f (if (dn 3 || ((5 : Nat) == 3)) then LX else L) d (if (dn 8 || ((5 : Nat) == 8)) then LX else L) cs) W'
                      rw [g3, g8]
                      exact h
                    clear g3 g8 e1 e2 e3
                    obtain rfl : l = [] := hl.symm.trans (by kernel_rfl)
                    clear hp hl
                    refine opgoal (_) (some 56) rfl rfl fun K hK => ?_
                    refine Runs.mk ?_
                    simp only [putAll]
                    go_simp
                    refine hK _ _ ?_ hS ⟨fun h => absurd h (by decide), fun h => absurd h (by decide), fun h3 h8 => ((fun w => Below.refl _ w) W)⟩ _ rfl rfl
                    first | rfl | go_simp | simp
                  · -- 6: Op.load 22 (Operand.tmp 56)
                    intro l hl vs W dn e1 e2 e3 hS hR hp
                    have f3 : dn 3 = dn 3 := rfl
                    have f8 : dn 8 = false := e3 8 (by kernel_rfl)
                    replace hS : (fun W => TN w W [(ob, opO p)] b mb N nn f (if (dn 3) then LX else L) d (if (dn 8) then LX else L) cs) W := hS
                    rw [f8] at hS
                    have g3 : (dn 3 || ((6 : Nat) == 3)) = dn 3 := Bool.or_false _
                    have g8 : (dn 8 || ((6 : Nat) == 8)) = false := by rw [f8]; rfl
                    refine OpGoal.imp (S1 := fun W => TN w W [(ob, opO p)] b mb N nn f (if (dn 3) then LX else L) d (if false then LX else L) cs) (fun W' h => ?_) ?_
                    · show (fun W => TN w W [(ob, opO p)] b mb N nn f (if (dn 3 || ((6 : Nat) == 3)) then LX else L) d (if (dn 8 || ((6 : Nat) == 8)) then LX else L) cs) W'
                      rw [g3, g8]
                      exact h
                    clear g3 g8 e1 e2 e3
                    obtain rfl : l = [(5, 56)] := hl.symm.trans (by kernel_rfl)
                    have p5 : vs 5 = _ := hp 5 (by decide) (by decide)
                    clear hp hl
                    refine opgoal (_) (some 57) rfl rfl fun K hK => ?_
                    obtain ⟨f0, f1, f2, f3⟩ := HCE.out _ _ _ _ _ _ hS
                    refine Runs.mk ?_
                    simp only [putAll]
                    go_simp
                    refine hK _ _ ?_ hS ⟨fun h => absurd h (by decide), fun h => absurd h (by decide), fun h3 h8 => ((fun w => Below.refl _ w) W)⟩ _ rfl rfl
                    first | rfl | go_simp | simp
                  · -- 7: Op.call { callee := Callee.value (Operand.func 27), args := #[Operand.tmp 57], argTypes := #[22] }
                    intro l hl vs W dn e1 e2 e3 hS hR hp
                    have f3 : dn 3 = true := e2 3 (by kernel_rfl)
                    have f8 : dn 8 = false := e3 8 (by kernel_rfl)
                    replace hS : (fun W => TN w W [(ob, opO p)] b mb N nn f (if (dn 3) then LX else L) d (if (dn 8) then LX else L) cs) W := hS
                    rw [f3, f8] at hS
                    have g3 : (dn 3 || ((7 : Nat) == 3)) = true := by rw [f3]; rfl
                    have g8 : (dn 8 || ((7 : Nat) == 8)) = false := by rw [f8]; rfl
                    refine OpGoal.imp (S1 := fun W => TN w W [(ob, opO p)] b mb N nn f (if true then LX else L) d (if false then LX else L) cs) (fun W' h => ?_) ?_
                    · show (fun W => TN w W [(ob, opO p)] b mb N nn f (if (dn 3 || ((7 : Nat) == 3)) then LX else L) d (if (dn 8 || ((7 : Nat) == 8)) then LX else L) cs) W'
                      rw [g3, g8]
                      exact h
                    clear g3 g8 e1 e2 e3
                    obtain rfl : l = [(0, 51), (1, 52), (2, 53), (3, 54), (5, 56), (6, 57)] := hl.symm.trans (by kernel_rfl)
                    have p6 : vs 6 = _ := hp 6 (by decide) (by decide)
                    clear hp hl
                    refine opgoal (_) (some 58) rfl rfl fun K hK => ?_
                    refine Runs.mk ?_
                    simp only [putAll]
                    go_simp
                    refine (HPL.out W hS).mono ?_
                    rintro e w' ⟨A', c', rfl, hr', hb', hA'⟩
                    go_simp
                    exact hK _ _ ⟨A', c', rfl, hr', hA'⟩ (hS.below hb') ⟨(fun h => absurd h (by decide)), (fun h => absurd h (by decide)), fun h1 h2 => hb'⟩ _ rfl rfl
                  · -- 8: Op.call { callee := Callee.value (Operand.func 26), args := #[Operand.tmp 55, Operand.tmp 58], argTypes := #[44, 47] }
                    intro l hl vs W dn e1 e2 e3 hS hR hp
                    have f3 : dn 3 = true := e2 3 (by kernel_rfl)
                    have f8 : dn 8 = false := e1
                    replace hS : (fun W => TN w W [(ob, opO p)] b mb N nn f (if (dn 3) then LX else L) d (if (dn 8) then LX else L) cs) W := hS
                    rw [f3, f8] at hS
                    have g3 : (dn 3 || ((8 : Nat) == 3)) = true := by rw [f3]; rfl
                    have g8 : (dn 8 || ((8 : Nat) == 8)) = true := by rw [f8]; rfl
                    refine OpGoal.imp (S1 := fun W => TN w W [(ob, opO p)] b mb N nn f (if true then LX else L) d (if true then LX else L) cs) (fun W' h => ?_) ?_
                    · show (fun W => TN w W [(ob, opO p)] b mb N nn f (if (dn 3 || ((8 : Nat) == 3)) then LX else L) d (if (dn 8 || ((8 : Nat) == 8)) then LX else L) cs) W'
                      rw [g3, g8]
                      exact h
                    clear g3 g8 e1 e2 e3
                    obtain rfl : l = [(0, 51), (1, 52), (2, 53), (3, 54), (4, 55), (5, 56), (6, 57), (7, 58)] := hl.symm.trans (by kernel_rfl)
                    have p4 : vs 4 = _ := hp 4 (by decide) (by decide)
                    have p7 : (fun v W => ∃ A c, v = .slice A Ln c ∧ RdE W A Ln 4 (Lxs.map encP) ∧ (0 < Ln → ∀ o, A = some o → o.block ≠ d)) (vs 7) W := hp 7 (by decide) (by decide)
                    dsimp only at p7
                    clear hp hl
                    obtain ⟨A', c', q7, r7, a7⟩ := p7
                    refine opgoal (_) (some 59) rfl rfl fun K hK => ?_
                    refine Runs.mk ?_
                    simp only [putAll]
                    go_simp
                    refine (HC2.out W A' c' hS r7 a7).mono ?_
                    rintro e w' ⟨rfl, hn⟩
                    go_simp
                    exact hK _ _ rfl hn ⟨(fun h => absurd h (by decide)), (fun _ => trivial), fun h1 h2 => absurd rfl h2⟩ _ rfl rfl
                  · -- 9: Op.binOp BinOp.neq 3 (Operand.tmp 54) (Operand.tmp 59) 3
                    intro l hl vs W dn e1 e2 e3 hS hR hp
                    have f3 : dn 3 = true := e2 3 (by kernel_rfl)
                    have f8 : dn 8 = true := e2 8 (by kernel_rfl)
                    replace hS : (fun W => TN w W [(ob, opO p)] b mb N nn f (if (dn 3) then LX else L) d (if (dn 8) then LX else L) cs) W := hS
                    rw [f3, f8] at hS
                    have g3 : (dn 3 || ((9 : Nat) == 3)) = true := by rw [f3]; rfl
                    have g8 : (dn 8 || ((9 : Nat) == 8)) = true := by rw [f8]; rfl
                    refine OpGoal.imp (S1 := fun W => TN w W [(ob, opO p)] b mb N nn f (if true then LX else L) d (if true then LX else L) cs) (fun W' h => ?_) ?_
                    · show (fun W => TN w W [(ob, opO p)] b mb N nn f (if (dn 3 || ((9 : Nat) == 3)) then LX else L) d (if (dn 8 || ((9 : Nat) == 8)) then LX else L) cs) W'
                      rw [g3, g8]
                      exact h
                    clear g3 g8 e1 e2 e3
                    obtain rfl : l = [(0, 51), (1, 52), (2, 53), (3, 54), (4, 55), (5, 56), (6, 57), (7, 58), (8, 59)] := hl.symm.trans (by kernel_rfl)
                    have p3 : vs 3 = _ := hp 3 (by decide) (by decide)
                    have p8 : vs 8 = _ := hp 8 (by decide) (by decide)
                    clear hp hl
                    refine opgoal ({ dst := some 60, op := Op.binOp BinOp.neq 3 (Operand.tmp 54) (Operand.tmp 59) 3, type := 4, pos := "law.go:66", after := #[{ on := 3, ground := Ground.data }, { on := 8, ground := Ground.data }], guard := none }) (some 60) rfl rfl fun K hK => ?_
                    refine runs_neq (wanted_none rfl) (.tmp 54) (.tmp 59) rfl (lost : Int) (eval_putAll (j := 3) (by simp) (by decide) (by intro k hk; simpa using hk) p3) (eval_putAll (j := 8) (by simp) (by decide) (by intro k hk; simpa using hk) p8) ?_
                    exact hK _ _ rfl hS ⟨(fun h => absurd h (by decide)), (fun h => absurd h (by decide)), fun h1 h2 => Below.refl _ _⟩ _ put_dfs (put_slot (by simp))
                · intro l hl vs W dn hd hS hR hp
                  replace hS : (fun W => TN w W [(ob, opO p)] b mb N nn f (if (dn 3) then LX else L) d (if (dn 8) then LX else L) cs) W := hS
                  rw [hd 3 (by decide), hd 8 (by decide)] at hS
                  obtain rfl : l = [(0, 51), (1, 52), (2, 53), (3, 54), (4, 55), (5, 56), (6, 57), (7, 58), (8, 59), (9, 60)] := hl.symm.trans (by kernel_rfl)
                  have p0 : vs 0 = _ := hp 0 (by decide) (by decide)
                  have p1 : vs 1 = _ := hp 1 (by decide) (by decide)
                  have p2 : vs 2 = _ := hp 2 (by decide) (by decide)
                  have p3 : vs 3 = _ := hp 3 (by decide) (by decide)
                  have p4 : vs 4 = _ := hp 4 (by decide) (by decide)
                  have p5 : vs 5 = _ := hp 5 (by decide) (by decide)
                  have p6 : vs 6 = _ := hp 6 (by decide) (by decide)
                  have p8 : vs 8 = _ := hp 8 (by decide) (by decide)
                  have p9 : vs 9 = _ := hp 9 (by decide) (by decide)
                  clear hp hl
                  simp only [putAll_mk, setAll, List.setIfInBounds_toArray, List.set_cons_succ, List.set_cons_zero, p0, p1, p2, p3, p4, p5, p6, p8, p9]
                  have HS := Lib.hid hS
                  clear hS hR hS0
                  go_wp2_with fail
                  go_meet
                  exact ⟨_, _, rfl, rfl, HF2.out _ HS.out⟩
            · have e0 : (ok == 0) = false := by simpa using k0
              by_cases k1 : ok = 1
              · have e1 : (ok == 1) = true := by simpa using k1
                as_aux_lemma =>
                  obtain ⟨px, py, pS, pq, r, LX, hT, hD, hlen2, hgood2⟩ : ∃ (px py : Int) (pS : ByteArray) (pq : Bool) (r : Int) (LX : List Pkt),
                      (Calls Try.prog 19 #[.pointer (some ⟨b, 0, none⟩), .int .i64 oa] W fun e w' => e = .returned (.tuple #[.agg #[.int .i64 px, .int .i64 py, .string pS, .bool pq], .int .i64 r]) ∧ TN w w' [(ob, opO p)] b mb N nn f LX d L cs) ∧
                      (∀ wx pr, TN w wx pr b mb N nn f LX d L cs → Calls Try.prog 28 #[.pointer (some ⟨d, 0, none⟩), .int .i64 oa] wx fun e w' => e = .returned (.tuple #[.agg #[.int .i64 px, .int .i64 py, .string pS, .bool pq], .int .i64 r]) ∧ TN w w' pr b mb N nn f LX d LX cs) ∧ LX.length ≤ 256 ∧ ∀ y ∈ LX, goodP y := by
                    by_cases hin : 0 ≤ oa ∧ oa < L.length
                    · obtain ⟨ix, hix0⟩ : ∃ ix : Nat, oa = (ix : Int) := ⟨oa.toNat, by omega⟩
                      have hix : ix < L.length := by omega
                      rw [hix0]
                      exact ⟨L[ix].a, L[ix].b, L[ix].s, L[ix].q, 0, L.eraseIdx ix, tn_take HNP.out hL256 ix hix, fun wx pr h => tn_dtake h hL256 ix hix, by rw [List.length_eraseIdx_of_lt hix]; omega, fun y hy => HQ.out.2.2.2 y (List.mem_of_mem_eraseIdx hy)⟩
                    · exact ⟨0, 0, ⟨#[]⟩, false, 8, L, tn_take_no HNP.out oa hin, fun wx pr h => tn_dtake_no h oa hin, hL256, HQ.out.2.2.2⟩
                  have HF2 := HFIN nn f LX cs (by omega) (by omega) HQ.out.2.2.1 hgood2 hlen2
                  have HT := Lib.hid hT
                  have HDG := Lib.hid hD
                  have heq := dp_eq px py pS pq
                  have hg := dp_guard
                  clear k0 k1 hT hD hlen2 hgood2 HFIN
                  go_wp2_with fail
                  refine HT.out.mono ?_
                  rintro e w5 ⟨rfl, hc5⟩
                  clear c0 c1 c2 c3
                  obtain ⟨xb, hxb⟩ : ∃ xb, Hid (w5.heap.size = xb) := ⟨_, Lib.hid rfl⟩
                  obtain ⟨W5, hW5⟩ : ∃ W5, Hid (w5.alloc (.cells #[.int .i64 px, .int .i64 py, .string pS, .bool pq] PT) = W5) := ⟨_, Lib.hid rfl⟩
                  have hcW := hc5.alloc (.cells #[.int .i64 px, .int .i64 py, .string pS, .bool pq] PT)
                  rw [hW5.out, hxb.out] at hcW
                  obtain ⟨PO, hPO⟩ : ∃ PO, Hid (Obj.cells #[.int .i64 px, .int .i64 py, .string pS, .bool pq] PT (0, 0) = PO) := ⟨_, Lib.hid rfl⟩
                  rw [hPO.out] at hcW
                  obtain ⟨c0, c1, c2, c3⟩ := HCE.out _ _ _ _ _ _ (hcW.sub (pr' := [(ob, opO p)]) (fun q hq => List.mem_cons_of_mem _ hq))
                  have HD5 := Lib.hid (HDG.out _ _ hcW)
                  clear hc5 hcW
                  go_wp2_with (rw [hW5.out, hxb.out])
                  refine HD5.out.mono ?_
                  rintro e w6 ⟨rfl, hc6⟩
                  clear c0 c1 c2 c3
                  have hpb := (hc6.pr (xb, PO) (by simp)).1
                  rw [← hPO.out] at hpb
                  obtain ⟨a0', a1', a2', a3'⟩ := pk_cells hpb
                  have a0 : ∀ o, (w6.alloc o).cell? ⟨xb, 0, none⟩ = some (.int .i64 px) := fun o => cell_below (below_alloc w6 o) a0'
                  have a1 : ∀ o, (w6.alloc o).cell? ⟨xb, 1, none⟩ = some (.int .i64 py) := fun o => cell_below (below_alloc w6 o) a1'
                  have a2 : ∀ o, (w6.alloc o).cell? ⟨xb, 2, none⟩ = some (.string pS) := fun o => cell_below (below_alloc w6 o) a2'
                  have a3 : ∀ o, (w6.alloc o).cell? ⟨xb, 3, none⟩ = some (.bool pq) := fun o => cell_below (below_alloc w6 o) a3'
                  have HC8 := Lib.hid (HF2.out _ ((hc6.below (below_alloc w6 (.cells #[.int .i64 px, .int .i64 py, .string pS, .bool pq] DPT))).sub (fun q hq => List.mem_cons_of_mem _ hq)))
                  clear hc6 a0' a1' a2' a3' hpb
                  go_wp2_with fail
                  go_meet
                  exact ⟨_, _, rfl, rfl, HC8.out⟩
              · have e1 : (ok == 1) = false := by simpa using k1
                by_cases k2 : ok = 2
                · have e2 : (ok == 2) = true := by simpa using k2
                  as_aux_lemma =>
                    have hlen2 := doubleL_len L oa hL256
                    have hgood2 := doubleL_good L oa HQ.out.2.2.2
                    have h1 : ∀ W, TN w W [(ob, opO p)] b mb N nn f L d L cs → _ := fun W h => tn_double h oa
                    have h2 : ∀ W, TN w W [(ob, opO p)] b mb N nn f (doubleL L oa).2 d L cs → _ := fun W h => tn_ddouble h oa
                    obtain ⟨⟨r, LX⟩, hq⟩ : ∃ q, doubleL L oa = q := ⟨_, rfl⟩
                    rw [hq] at hlen2 hgood2 h1 h2
                    dsimp only at hlen2 hgood2 h1 h2
                    have HC1 := Lib.hid h1
                    have HC2 := Lib.hid h2
                    have HF2 := HFIN nn f LX cs (by omega) (by omega) HQ.out.2.2.1 hgood2 hlen2
                    have hS0 : TN w W.drew [(ob, opO p)] b mb N nn f L d L cs := HNP.out.below (below_drewN 1 W)
                    clear k0 k1 k2 hlen2 hgood2 HFIN h1 h2 hq
                    go_wp2_with fail
                    clear c0 c1 c2 c3
                    refine wp_region_done (fun dnf => fun W => TN w W [(ob, opO p)] b mb N nn f (if (dnf 3) then LX else L) d (if (dnf 7) then LX else L) cs) (fun _ _ => True) (fun k u v => (k = 3 → (fun _ _ => True) u v) ∧ (k = 7 → (fun _ _ => True) u v) ∧ (¬ k = 3 → ¬ k = 7 → (fun _ _ => True) u v)) (fun a i => match i with
                        | 0 => (fun v _ => v = .pointer (some ⟨b, 0, none⟩))
                        | 1 => (fun v _ => v = .pointer (some ⟨ob, 1, none⟩))
                        | 2 => (fun v _ => v = .int .i64 oa)
                        | 3 => (fun v _ => v = .int .i64 r)
                        | 4 => (fun v _ => v = .pointer (some ⟨d, 0, none⟩))
                        | 5 => (fun v _ => v = .pointer (some ⟨ob, 1, none⟩))
                        | 6 => (fun v _ => v = .int .i64 oa)
                        | 7 => (fun v _ => v = .int .i64 r)
                        | 8 => (fun v _ => v = .int .i64 r)
                        | 9 => (fun v _ => v = .int .i64 r)
                        | _ => (fun _ _ => True)) #[0, 0, 2, 7, 0, 0, 32, 127, 255, 511] #[0, 0, 2, 5, 0, 0, 32, 80, 8, 128] 1023 (by kernel_rfl) 10 rfl (fun m hm => by subst hm; kernel_rfl) (by kernel_rfl) (fun w => trivial) (fun u v w h1 h2 => trivial) ?_ ?_ (hS0) ?_ ?_
                    · intro k u v hk hr
                      by_cases hs3 : k = 3
                      · have h := hr.1 hs3; exact trivial
                      by_cases hs7 : k = 7
                      · have h := hr.2.1 hs7; exact trivial
                      have h := hr.2.2 hs3 hs7; exact trivial
                    · intro i hi
                      rcases (by omega : i = 0 ∨ i = 1 ∨ i = 2 ∨ i = 3 ∨ i = 4 ∨ i = 5 ∨ i = 6 ∨ i = 7 ∨ i = 8 ∨ i = 9) with rfl | rfl | rfl | rfl | rfl | rfl | rfl | rfl | rfl | rfl
                      · intro k hk y hy hyt v w w' h hr
                        exact h
                      · intro k hk y hy hyt v w w' h hr
                        exact h
                      · intro k hk y hy hyt v w w' h hr
                        exact h
                      · intro k hk y hy hyt v w w' h hr
                        exact h
                      · intro k hk y hy hyt v w w' h hr
                        exact h
                      · intro k hk y hy hyt v w w' h hr
                        exact h
                      · intro k hk y hy hyt v w w' h hr
                        exact h
                      · intro k hk y hy hyt v w w' h hr
                        exact h
                      · intro k hk y hy hyt v w w' h hr
                        exact h
                      · intro k hk y hy hyt v w w' h hr
                        exact h
                    · intro i hi
                      rcases (by omega : i = 0 ∨ i = 1 ∨ i = 2 ∨ i = 3 ∨ i = 4 ∨ i = 5 ∨ i = 6 ∨ i = 7 ∨ i = 8 ∨ i = 9) with rfl | rfl | rfl | rfl | rfl | rfl | rfl | rfl | rfl | rfl
                      · -- 0: Op.move (Operand.tmp 5)
                        intro l hl vs W dn e1 e2 e3 hS hR hp
                        have f3 : dn 3 = false := e3 3 (by kernel_rfl)
                        have f7 : dn 7 = false := e3 7 (by kernel_rfl)
                        replace hS : (fun W => TN w W [(ob, opO p)] b mb N nn f (if (dn 3) then LX else L) d (if (dn 7) then LX else L) cs) W := hS
                        rw [f3, f7] at hS
                        have g3 : (dn 3 || ((0 : Nat) == 3)) = false := by rw [f3]; rfl
                        have g7 : (dn 7 || ((0 : Nat) == 7)) = false := by rw [f7]; rfl
                        refine OpGoal.imp (S1 := fun W => TN w W [(ob, opO p)] b mb N nn f (if false then LX else L) d (if false then LX else L) cs) (fun W' h => ?_) ?_
                        · show (fun W => TN w W [(ob, opO p)] b mb N nn f (if (dn 3 || ((0 : Nat) == 3)) then LX else L) d (if (dn 7 || ((0 : Nat) == 7)) then LX else L) cs) W'
                          rw [g3, g7]
                          exact h
                        clear g3 g7 e1 e2 e3
                        obtain rfl : l = [] := hl.symm.trans (by kernel_rfl)
                        clear hp hl
                        refine opgoal (_) (some 84) rfl rfl fun K hK => ?_
                        refine Runs.mk ?_
                        simp only [putAll]
                        go_simp
                        refine hK _ _ ?_ hS ⟨fun h => absurd h (by decide), fun h => absurd h (by decide), fun h3 h7 => ((fun w => trivial) W)⟩ _ rfl rfl
                        first | rfl | go_simp | simp
                      · -- 1: Op.fieldAddr 39 (Operand.tmp 9) 1
                        intro l hl vs W dn e1 e2 e3 hS hR hp
                        have f3 : dn 3 = false := e3 3 (by kernel_rfl)
                        have f7 : dn 7 = false := e3 7 (by kernel_rfl)
                        replace hS : (fun W => TN w W [(ob, opO p)] b mb N nn f (if (dn 3) then LX else L) d (if (dn 7) then LX else L) cs) W := hS
                        rw [f3, f7] at hS
                        have g3 : (dn 3 || ((1 : Nat) == 3)) = false := by rw [f3]; rfl
                        have g7 : (dn 7 || ((1 : Nat) == 7)) = false := by rw [f7]; rfl
                        refine OpGoal.imp (S1 := fun W => TN w W [(ob, opO p)] b mb N nn f (if false then LX else L) d (if false then LX else L) cs) (fun W' h => ?_) ?_
                        · show (fun W => TN w W [(ob, opO p)] b mb N nn f (if (dn 3 || ((1 : Nat) == 3)) then LX else L) d (if (dn 7 || ((1 : Nat) == 7)) then LX else L) cs) W'
                          rw [g3, g7]
                          exact h
                        clear g3 g7 e1 e2 e3
                        obtain rfl : l = [] := hl.symm.trans (by kernel_rfl)
                        clear hp hl
                        refine opgoal (_) (some 85) rfl rfl fun K hK => ?_
                        refine Runs.mk ?_
                        simp only [putAll]
                        go_simp
                        refine hK _ _ ?_ hS ⟨fun h => absurd h (by decide), fun h => absurd h (by decide), fun h3 h7 => ((fun w => trivial) W)⟩ _ rfl rfl
                        first | rfl | go_simp | simp
                      · -- 2: Op.load 3 (Operand.tmp 85)
                        intro l hl vs W dn e1 e2 e3 hS hR hp
                        have f3 : dn 3 = false := e3 3 (by kernel_rfl)
                        have f7 : dn 7 = false := e3 7 (by kernel_rfl)
                        replace hS : (fun W => TN w W [(ob, opO p)] b mb N nn f (if (dn 3) then LX else L) d (if (dn 7) then LX else L) cs) W := hS
                        rw [f3, f7] at hS
                        have g3 : (dn 3 || ((2 : Nat) == 3)) = false := by rw [f3]; rfl
                        have g7 : (dn 7 || ((2 : Nat) == 7)) = false := by rw [f7]; rfl
                        refine OpGoal.imp (S1 := fun W => TN w W [(ob, opO p)] b mb N nn f (if false then LX else L) d (if false then LX else L) cs) (fun W' h => ?_) ?_
                        · show (fun W => TN w W [(ob, opO p)] b mb N nn f (if (dn 3 || ((2 : Nat) == 3)) then LX else L) d (if (dn 7 || ((2 : Nat) == 7)) then LX else L) cs) W'
                          rw [g3, g7]
                          exact h
                        clear g3 g7 e1 e2 e3
                        obtain rfl : l = [(1, 85)] := hl.symm.trans (by kernel_rfl)
                        have p1 : vs 1 = _ := hp 1 (by decide) (by decide)
                        clear hp hl
                        refine opgoal (_) (some 86) rfl rfl fun K hK => ?_
                        obtain ⟨f0, f1, f2, f3⟩ := HCE.out _ _ _ _ _ _ hS
                        refine Runs.mk ?_
                        simp only [putAll]
                        go_simp
                        refine hK _ _ ?_ hS ⟨fun h => absurd h (by decide), fun h => absurd h (by decide), fun h3 h7 => ((fun w => trivial) W)⟩ _ rfl rfl
                        first | rfl | go_simp | simp
                      · -- 3: Op.call { callee := Callee.value (Operand.func 22), args := #[Operand.tmp 84, Operand.tmp 86], argTypes := #[24, 3] }
                        intro l hl vs W dn e1 e2 e3 hS hR hp
                        have f3 : dn 3 = false := e1
                        have f7 : dn 7 = false := e3 7 (by kernel_rfl)
                        replace hS : (fun W => TN w W [(ob, opO p)] b mb N nn f (if (dn 3) then LX else L) d (if (dn 7) then LX else L) cs) W := hS
                        rw [f3, f7] at hS
                        have g3 : (dn 3 || ((3 : Nat) == 3)) = true := by rw [f3]; rfl
                        have g7 : (dn 7 || ((3 : Nat) == 7)) = false := by rw [f7]; rfl
                        refine OpGoal.imp (S1 := fun W => TN w W [(ob, opO p)] b mb N nn f (if true then LX else L) d (if false then LX else L) cs) (fun W' h => ?_) ?_
                        · show (fun W => TN w W [(ob, opO p)] b mb N nn f (if (dn 3 || ((3 : Nat) == 3)) then LX else L) d (if (dn 7 || ((3 : Nat) == 7)) then LX else L) cs) W'
                          rw [g3, g7]
                          exact h
                        clear g3 g7 e1 e2 e3
                        obtain rfl : l = [(0, 84), (1, 85), (2, 86)] := hl.symm.trans (by kernel_rfl)
                        have p0 : vs 0 = _ := hp 0 (by decide) (by decide)
                        have p2 : vs 2 = _ := hp 2 (by decide) (by decide)
                        clear hp hl
                        refine opgoal (_) (some 87) rfl rfl fun K hK => ?_
                        refine Runs.mk ?_
                        simp only [putAll]
                        go_simp
                        refine (HC1.out W hS).mono ?_
                        rintro e w' ⟨rfl, hn⟩
                        go_simp
                        exact hK _ _ rfl hn ⟨(fun _ => trivial), (fun h => absurd h (by decide)), fun h1 h2 => absurd rfl h1⟩ _ rfl rfl
                      · -- 4: Op.move (Operand.tmp 7)
                        intro l hl vs W dn e1 e2 e3 hS hR hp
                        have f3 : dn 3 = dn 3 := rfl
                        have f7 : dn 7 = false := e3 7 (by kernel_rfl)
                        replace hS : (fun W => TN w W [(ob, opO p)] b mb N nn f (if (dn 3) then LX else L) d (if (dn 7) then LX else L) cs) W := hS
                        rw [f7] at hS
                        have g3 : (dn 3 || ((4 : Nat) == 3)) = dn 3 := Bool.or_false _
                        have g7 : (dn 7 || ((4 : Nat) == 7)) = false := by rw [f7]; rfl
                        refine OpGoal.imp (S1 := fun W => TN w W [(ob, opO p)] b mb N nn f (if (dn 3) then LX else L) d (if false then LX else L) cs) (fun W' h => ?_) ?_
                        · show (fun W => TN w W [(ob, opO p)] b mb N nn f (if (dn 3 || ((4 : Nat) == 3)) then LX else L) d (if (dn 7 || ((4 : Nat) == 7)) then LX else L) cs) W'
                          rw [g3, g7]
                          exact h
                        clear g3 g7 e1 e2 e3
                        obtain rfl : l = [] := hl.symm.trans (by kernel_rfl)
                        clear hp hl
                        refine opgoal (_) (some 88) rfl rfl fun K hK => ?_
                        refine Runs.mk ?_
                        simp only [putAll]
                        go_simp
                        refine hK _ _ ?_ hS ⟨fun h => absurd h (by decide), fun h => absurd h (by decide), fun h3 h7 => ((fun w => trivial) W)⟩ _ rfl rfl
                        first | rfl | go_simp | simp
                      · -- 5: Op.fieldAddr 39 (Operand.tmp 9) 1
                        intro l hl vs W dn e1 e2 e3 hS hR hp
                        have f3 : dn 3 = dn 3 := rfl
                        have f7 : dn 7 = false := e3 7 (by kernel_rfl)
                        replace hS : (fun W => TN w W [(ob, opO p)] b mb N nn f (if (dn 3) then LX else L) d (if (dn 7) then LX else L) cs) W := hS
                        rw [f7] at hS
                        have g3 : (dn 3 || ((5 : Nat) == 3)) = dn 3 := Bool.or_false _
                        have g7 : (dn 7 || ((5 : Nat) == 7)) = false := by rw [f7]; rfl
                        refine OpGoal.imp (S1 := fun W => TN w W [(ob, opO p)] b mb N nn f (if (dn 3) then LX else L) d (if false then LX else L) cs) (fun W' h => ?_) ?_
                        · show (fun W => TN w W [(ob, opO p)] b mb N nn f (if (dn 3 || ((5 : Nat) == 3)) then LX else L) d (if (dn 7 || ((5 : Nat) == 7)) then LX else L) cs) W'
                          rw [g3, g7]
                          exact h
                        clear g3 g7 e1 e2 e3
                        obtain rfl : l = [] := hl.symm.trans (by kernel_rfl)
                        clear hp hl
                        refine opgoal (_) (some 89) rfl rfl fun K hK => ?_
                        refine Runs.mk ?_
                        simp only [putAll]
                        go_simp
                        refine hK _ _ ?_ hS ⟨fun h => absurd h (by decide), fun h => absurd h (by decide), fun h3 h7 => ((fun w => trivial) W)⟩ _ rfl rfl
                        first | rfl | go_simp | simp
                      · -- 6: Op.load 3 (Operand.tmp 89)
                        intro l hl vs W dn e1 e2 e3 hS hR hp
                        have f3 : dn 3 = dn 3 := rfl
                        have f7 : dn 7 = false := e3 7 (by kernel_rfl)
                        replace hS : (fun W => TN w W [(ob, opO p)] b mb N nn f (if (dn 3) then LX else L) d (if (dn 7) then LX else L) cs) W := hS
                        rw [f7] at hS
                        have g3 : (dn 3 || ((6 : Nat) == 3)) = dn 3 := Bool.or_false _
                        have g7 : (dn 7 || ((6 : Nat) == 7)) = false := by rw [f7]; rfl
                        refine OpGoal.imp (S1 := fun W => TN w W [(ob, opO p)] b mb N nn f (if (dn 3) then LX else L) d (if false then LX else L) cs) (fun W' h => ?_) ?_
                        · show (fun W => TN w W [(ob, opO p)] b mb N nn f (if (dn 3 || ((6 : Nat) == 3)) then LX else L) d (if (dn 7 || ((6 : Nat) == 7)) then LX else L) cs) W'
                          rw [g3, g7]
                          exact h
                        clear g3 g7 e1 e2 e3
                        obtain rfl : l = [(5, 89)] := hl.symm.trans (by kernel_rfl)
                        have p5 : vs 5 = _ := hp 5 (by decide) (by decide)
                        clear hp hl
                        refine opgoal (_) (some 90) rfl rfl fun K hK => ?_
                        obtain ⟨f0, f1, f2, f3⟩ := HCE.out _ _ _ _ _ _ hS
                        refine Runs.mk ?_
                        simp only [putAll]
                        go_simp
                        refine hK _ _ ?_ hS ⟨fun h => absurd h (by decide), fun h => absurd h (by decide), fun h3 h7 => ((fun w => trivial) W)⟩ _ rfl rfl
                        first | rfl | go_simp | simp
                      · -- 7: Op.call { callee := Callee.value (Operand.func 29), args := #[Operand.tmp 88, Operand.tmp 90], argTypes := #[44, 3] }
                        intro l hl vs W dn e1 e2 e3 hS hR hp
                        have f3 : dn 3 = true := e2 3 (by kernel_rfl)
                        have f7 : dn 7 = false := e1
                        replace hS : (fun W => TN w W [(ob, opO p)] b mb N nn f (if (dn 3) then LX else L) d (if (dn 7) then LX else L) cs) W := hS
                        rw [f3, f7] at hS
                        have g3 : (dn 3 || ((7 : Nat) == 3)) = true := by rw [f3]; rfl
                        have g7 : (dn 7 || ((7 : Nat) == 7)) = true := by rw [f7]; rfl
                        refine OpGoal.imp (S1 := fun W => TN w W [(ob, opO p)] b mb N nn f (if true then LX else L) d (if true then LX else L) cs) (fun W' h => ?_) ?_
                        · show (fun W => TN w W [(ob, opO p)] b mb N nn f (if (dn 3 || ((7 : Nat) == 3)) then LX else L) d (if (dn 7 || ((7 : Nat) == 7)) then LX else L) cs) W'
                          rw [g3, g7]
                          exact h
                        clear g3 g7 e1 e2 e3
                        obtain rfl : l = [(0, 84), (1, 85), (2, 86), (3, 87), (4, 88), (5, 89), (6, 90)] := hl.symm.trans (by kernel_rfl)
                        have p4 : vs 4 = _ := hp 4 (by decide) (by decide)
                        have p6 : vs 6 = _ := hp 6 (by decide) (by decide)
                        clear hp hl
                        refine opgoal (_) (some 91) rfl rfl fun K hK => ?_
                        refine Runs.mk ?_
                        simp only [putAll]
                        go_simp
                        refine (HC2.out W hS).mono ?_
                        rintro e w' ⟨rfl, hn⟩
                        go_simp
                        exact hK _ _ rfl hn ⟨(fun h => absurd h (by decide)), (fun _ => trivial), fun h1 h2 => absurd rfl h2⟩ _ rfl rfl
                      · -- 8: Op.assign (Operand.tmp 87)
                        intro l hl vs W dn e1 e2 e3 hS hR hp
                        have f3 : dn 3 = true := e2 3 (by kernel_rfl)
                        have f7 : dn 7 = true := e2 7 (by kernel_rfl)
                        replace hS : (fun W => TN w W [(ob, opO p)] b mb N nn f (if (dn 3) then LX else L) d (if (dn 7) then LX else L) cs) W := hS
                        rw [f3, f7] at hS
                        have g3 : (dn 3 || ((8 : Nat) == 3)) = true := by rw [f3]; rfl
                        have g7 : (dn 7 || ((8 : Nat) == 7)) = true := by rw [f7]; rfl
                        refine OpGoal.imp (S1 := fun W => TN w W [(ob, opO p)] b mb N nn f (if true then LX else L) d (if true then LX else L) cs) (fun W' h => ?_) ?_
                        · show (fun W => TN w W [(ob, opO p)] b mb N nn f (if (dn 3 || ((8 : Nat) == 3)) then LX else L) d (if (dn 7 || ((8 : Nat) == 7)) then LX else L) cs) W'
                          rw [g3, g7]
                          exact h
                        clear g3 g7 e1 e2 e3
                        obtain rfl : l = [(0, 84), (1, 85), (2, 86), (3, 87), (4, 88), (5, 89), (6, 90), (7, 91)] := hl.symm.trans (by kernel_rfl)
                        have p3 : vs 3 = _ := hp 3 (by decide) (by decide)
                        clear hp hl
                        refine opgoal ({ dst := some 10, op := Op.assign (Operand.tmp 87), type := 25, pos := "law.go:77", after := #[{ on := 3, ground := Ground.data }, { on := 7, ground := Ground.chain }, { on := 0, ground := Ground.phase }, { on := 1, ground := Ground.phase }, { on := 2, ground := Ground.phase }, { on := 3, ground := Ground.phase }, { on := 4, ground := Ground.textOnly Departure.lateStores }, { on := 5, ground := Ground.textOnly Departure.lateStores }, { on := 6, ground := Ground.textOnly Departure.lateStores }, { on := 7, ground := Ground.textOnly Departure.lateStoresUnsure }], guard := none }) (some 10) rfl rfl fun K hK => ?_
                        refine runs_assign (wanted_none rfl) (.tmp 87) rfl (.int .i64 r) (eval_putAll (j := 3) (by simp) (by decide) (by intro k hk; simpa using hk) p3) ?_
                        exact hK _ _ rfl hS ⟨(fun h => absurd h (by decide)), (fun h => absurd h (by decide)), fun h1 h2 => trivial⟩ _ put_dfs (put_slot (by simp))
                      · -- 9: Op.assign (Operand.tmp 91)
                        intro l hl vs W dn e1 e2 e3 hS hR hp
                        have f3 : dn 3 = true := e2 3 (by kernel_rfl)
                        have f7 : dn 7 = true := e2 7 (by kernel_rfl)
                        replace hS : (fun W => TN w W [(ob, opO p)] b mb N nn f (if (dn 3) then LX else L) d (if (dn 7) then LX else L) cs) W := hS
                        rw [f3, f7] at hS
                        have g3 : (dn 3 || ((9 : Nat) == 3)) = true := by rw [f3]; rfl
                        have g7 : (dn 7 || ((9 : Nat) == 7)) = true := by rw [f7]; rfl
                        refine OpGoal.imp (S1 := fun W => TN w W [(ob, opO p)] b mb N nn f (if true then LX else L) d (if true then LX else L) cs) (fun W' h => ?_) ?_
                        · show (fun W => TN w W [(ob, opO p)] b mb N nn f (if (dn 3 || ((9 : Nat) == 3)) then LX else L) d (if (dn 7 || ((9 : Nat) == 7)) then LX else L) cs) W'
                          rw [g3, g7]
                          exact h
                        clear g3 g7 e1 e2 e3
                        obtain rfl : l = [(0, 84), (1, 85), (2, 86), (3, 87), (4, 88), (5, 89), (6, 90), (7, 91), (8, 10)] := hl.symm.trans (by kernel_rfl)
                        have p7 : vs 7 = _ := hp 7 (by decide) (by decide)
                        clear hp hl
                        refine opgoal ({ dst := some 11, op := Op.assign (Operand.tmp 91), type := 3, pos := "law.go:77", after := #[{ on := 7, ground := Ground.data }, { on := 8, ground := Ground.chain }, { on := 0, ground := Ground.phase }, { on := 1, ground := Ground.phase }, { on := 2, ground := Ground.phase }, { on := 3, ground := Ground.phase }, { on := 4, ground := Ground.phase }, { on := 5, ground := Ground.phase }, { on := 6, ground := Ground.phase }, { on := 7, ground := Ground.phase }, { on := 8, ground := Ground.phase }], guard := none }) (some 11) rfl rfl fun K hK => ?_
                        refine runs_assign (wanted_none rfl) (.tmp 91) rfl (.int .i64 r) (eval_putAll (j := 7) (by simp) (by decide) (by intro k hk; simpa using hk) p7) ?_
                        exact hK _ _ rfl hS ⟨(fun h => absurd h (by decide)), (fun h => absurd h (by decide)), fun h1 h2 => trivial⟩ _ put_dfs (put_slot (by simp))
                    · intro l hl vs W dn hd hS hR hp
                      replace hS : (fun W => TN w W [(ob, opO p)] b mb N nn f (if (dn 3) then LX else L) d (if (dn 7) then LX else L) cs) W := hS
                      rw [hd 3 (by decide), hd 7 (by decide)] at hS
                      obtain rfl : l = [(0, 84), (1, 85), (2, 86), (3, 87), (4, 88), (5, 89), (6, 90), (7, 91), (8, 10), (9, 11)] := hl.symm.trans (by kernel_rfl)
                      have p0 : vs 0 = _ := hp 0 (by decide) (by decide)
                      have p1 : vs 1 = _ := hp 1 (by decide) (by decide)
                      have p2 : vs 2 = _ := hp 2 (by decide) (by decide)
                      have p3 : vs 3 = _ := hp 3 (by decide) (by decide)
                      have p4 : vs 4 = _ := hp 4 (by decide) (by decide)
                      have p5 : vs 5 = _ := hp 5 (by decide) (by decide)
                      have p6 : vs 6 = _ := hp 6 (by decide) (by decide)
                      have p7 : vs 7 = _ := hp 7 (by decide) (by decide)
                      have p8 : vs 8 = _ := hp 8 (by decide) (by decide)
                      have p9 : vs 9 = _ := hp 9 (by decide) (by decide)
                      clear hp hl
                      simp only [putAll_mk, setAll, List.setIfInBounds_toArray, List.set_cons_succ, List.set_cons_zero, p0, p1, p2, p3, p4, p5, p6, p7, p8, p9]
                      have HS := Lib.hid hS
                      clear hS hR hS0
                      go_wp2_with fail
                      go_meet
                      exact ⟨_, _, rfl, rfl, HF2.out _ HS.out⟩
                · have e2 : (ok == 2) = false := by simpa using k2
                  by_cases k3 : ok = 3
                  · have e3 : (ok == 3) = true := by simpa using k3
                    as_aux_lemma =>
                      have hcl := setL_len cs oa oB true
                      have hco := HQ.out.2.2.1.set oa oB true
                      have h1 : ∀ W, TN w W [(ob, opO p)] b mb N nn f L d L cs → _ := fun W h => tn_cut h HBN.out.1 oa oB hls.out.2.2.2.2.1 hls.out.2.2.2.2.2
                      have h2 : ∀ W, TN w W [(ob, opO p)] b mb N (nn + 1) (if okW N oa oB then upd f oa oB true else f) L d L cs → _ := fun W h => tn_dset h HBN.out.2 oa oB true
                      obtain ⟨r, hr⟩ : ∃ r : Int, (if okW N oa oB then (0 : Int) else 1) = r := ⟨_, rfl⟩
                      obtain ⟨f2, hf2⟩ : ∃ f2, (if okW N oa oB then upd f oa oB true else f) = f2 := ⟨_, rfl⟩
                      obtain ⟨cs2, hcs2⟩ : ∃ cs2, (if okW N oa oB then setL cs oa oB true else cs) = cs2 := ⟨_, rfl⟩
                      have hco2 : Coh f2 cs2 := by rw [← hf2, ← hcs2]; cases okW N oa oB <;> simp only [if_true, Bool.false_eq_true, if_false] <;> first | exact hco | exact HQ.out.2.2.1
                      have hcl2 : cs2.length ≤ cs.length + 1 := by rw [← hcs2]; cases okW N oa oB <;> simp only [if_true, Bool.false_eq_true, if_false] <;> omega
                      rw [hr, hf2] at h1
                      rw [hr, hf2, hcs2] at h2
                      have HC1 := Lib.hid h1
                      have HC2 := Lib.hid h2
                      have HF2 := HFIN (nn + 1) f2 L cs2 (by omega) hcl2 hco2 HQ.out.2.2.2 hL256
                      have hS0 : TN w W.drew [(ob, opO p)] b mb N nn f L d L cs := HNP.out.below (below_drewN 1 W)
                      clear k0 k1 k2 k3 HFIN h1 h2 hr hf2 hcs2 hco2 hcl2 hco hcl
                      go_wp2_with fail
                      clear c0 c1 c2 c3
                      refine wp_region_done (fun dnf => fun W => TN w W [(ob, opO p)] b mb N (if (dnf 5) then (nn + 1) else nn) (if (dnf 5) then f2 else f) L d L (if (dnf 11) then cs2 else cs)) (fun _ _ => True) (fun k u v => (k = 5 → (fun _ _ => True) u v) ∧ (k = 11 → (fun _ _ => True) u v) ∧ (¬ k = 5 → ¬ k = 11 → (fun _ _ => True) u v)) (fun a i => match i with
                          | 0 => (fun v _ => v = .pointer (some ⟨b, 0, none⟩))
                          | 1 => (fun v _ => v = .pointer (some ⟨ob, 1, none⟩))
                          | 2 => (fun v _ => v = .int .i64 oa)
                          | 3 => (fun v _ => v = .pointer (some ⟨ob, 2, none⟩))
                          | 4 => (fun v _ => v = .int .i64 oB)
                          | 5 => (fun v _ => v = .int .i64 r)
                          | 6 => (fun v _ => v = .pointer (some ⟨d, 0, none⟩))
                          | 7 => (fun v _ => v = .pointer (some ⟨ob, 1, none⟩))
                          | 8 => (fun v _ => v = .int .i64 oa)
                          | 9 => (fun v _ => v = .pointer (some ⟨ob, 2, none⟩))
                          | 10 => (fun v _ => v = .int .i64 oB)
                          | 11 => (fun v _ => v = .int .i64 r)
                          | 12 => (fun v _ => v = .int .i64 r)
                          | 13 => (fun v _ => v = .int .i64 r)
                          | _ => (fun _ _ => True)) #[0, 0, 2, 0, 8, 31, 0, 0, 128, 0, 512, 2047, 4095, 8191] #[0, 0, 2, 0, 8, 21, 0, 0, 128, 0, 512, 1344, 32, 2048] 16383 (by kernel_rfl) 14 rfl (fun m hm => by subst hm; kernel_rfl) (by kernel_rfl) (fun w => trivial) (fun u v w h1 h2 => trivial) ?_ ?_ (hS0) ?_ ?_
                      · intro k u v hk hr
                        by_cases hs5 : k = 5
                        · have h := hr.1 hs5; exact trivial
                        by_cases hs11 : k = 11
                        · have h := hr.2.1 hs11; exact trivial
                        have h := hr.2.2 hs5 hs11; exact trivial
                      · intro i hi
                        rcases (by omega : i = 0 ∨ i = 1 ∨ i = 2 ∨ i = 3 ∨ i = 4 ∨ i = 5 ∨ i = 6 ∨ i = 7 ∨ i = 8 ∨ i = 9 ∨ i = 10 ∨ i = 11 ∨ i = 12 ∨ i = 13) with rfl | rfl | rfl | rfl | rfl | rfl | rfl | rfl | rfl | rfl | rfl | rfl | rfl | rfl
                        · intro k hk y hy hyt v w w' h hr
                          exact h
                        · intro k hk y hy hyt v w w' h hr
                          exact h
                        · intro k hk y hy hyt v w w' h hr
                          exact h
                        · intro k hk y hy hyt v w w' h hr
                          exact h
                        · intro k hk y hy hyt v w w' h hr
                          exact h
                        · intro k hk y hy hyt v w w' h hr
                          exact h
                        · intro k hk y hy hyt v w w' h hr
                          exact h
                        · intro k hk y hy hyt v w w' h hr
                          exact h
                        · intro k hk y hy hyt v w w' h hr
                          exact h
                        · intro k hk y hy hyt v w w' h hr
                          exact h
                        · intro k hk y hy hyt v w w' h hr
                          exact h
                        · intro k hk y hy hyt v w w' h hr
                          exact h
                        · intro k hk y hy hyt v w w' h hr
                          exact h
                        · intro k hk y hy hyt v w w' h hr
                          exact h
                      · intro i hi
                        rcases (by omega : i = 0 ∨ i = 1 ∨ i = 2 ∨ i = 3 ∨ i = 4 ∨ i = 5 ∨ i = 6 ∨ i = 7 ∨ i = 8 ∨ i = 9 ∨ i = 10 ∨ i = 11 ∨ i = 12 ∨ i = 13) with rfl | rfl | rfl | rfl | rfl | rfl | rfl | rfl | rfl | rfl | rfl | rfl | rfl | rfl
                        · -- 0: Op.move (Operand.tmp 5)
                          intro l hl vs W dn e1 e2 e3 hS hR hp
                          have f5 : dn 5 = false := e3 5 (by kernel_rfl)
                          have f11 : dn 11 = false := e3 11 (by kernel_rfl)
                          replace hS : (fun W => TN w W [(ob, opO p)] b mb N (if (dn 5) then (nn + 1) else nn) (if (dn 5) then f2 else f) L d L (if (dn 11) then cs2 else cs)) W := hS
                          rw [f5, f11] at hS
                          have g5 : (dn 5 || ((0 : Nat) == 5)) = false := by rw [f5]; rfl
                          have g11 : (dn 11 || ((0 : Nat) == 11)) = false := by rw [f11]; rfl
                          refine OpGoal.imp (S1 := fun W => TN w W [(ob, opO p)] b mb N (if false then (nn + 1) else nn) (if false then f2 else f) L d L (if false then cs2 else cs)) (fun W' h => ?_) ?_
                          · show (fun W => TN w W [(ob, opO p)] b mb N (if (dn 5 || ((0 : Nat) == 5)) then (nn + 1) else nn) (if (dn 5 || ((0 : Nat) == 5)) then f2 else f) L d L (if (dn 11 || ((0 : Nat) == 11)) then cs2 else cs)) W'
                            rw [g5, g11]
                            exact h
                          clear g5 g11 e1 e2 e3
                          obtain rfl : l = [] := hl.symm.trans (by kernel_rfl)
                          clear hp hl
                          refine opgoal (_) (some 94) rfl rfl fun K hK => ?_
                          refine Runs.mk ?_
                          simp only [putAll]
                          go_simp
                          refine hK _ _ ?_ hS ⟨fun h => absurd h (by decide), fun h => absurd h (by decide), fun h5 h11 => ((fun w => trivial) W)⟩ _ rfl rfl
                          first | rfl | go_simp | simp
                        · -- 1: Op.fieldAddr 39 (Operand.tmp 9) 1
                          intro l hl vs W dn e1 e2 e3 hS hR hp
                          have f5 : dn 5 = false := e3 5 (by kernel_rfl)
                          have f11 : dn 11 = false := e3 11 (by kernel_rfl)
                          replace hS : (fun W => TN w W [(ob, opO p)] b mb N (if (dn 5) then (nn + 1) else nn) (if (dn 5) then f2 else f) L d L (if (dn 11) then cs2 else cs)) W := hS
                          rw [f5, f11] at hS
                          have g5 : (dn 5 || ((1 : Nat) == 5)) = false := by rw [f5]; rfl
                          have g11 : (dn 11 || ((1 : Nat) == 11)) = false := by rw [f11]; rfl
                          refine OpGoal.imp (S1 := fun W => TN w W [(ob, opO p)] b mb N (if false then (nn + 1) else nn) (if false then f2 else f) L d L (if false then cs2 else cs)) (fun W' h => ?_) ?_
                          · show (fun W => TN w W [(ob, opO p)] b mb N (if (dn 5 || ((1 : Nat) == 5)) then (nn + 1) else nn) (if (dn 5 || ((1 : Nat) == 5)) then f2 else f) L d L (if (dn 11 || ((1 : Nat) == 11)) then cs2 else cs)) W'
                            rw [g5, g11]
                            exact h
                          clear g5 g11 e1 e2 e3
                          obtain rfl : l = [] := hl.symm.trans (by kernel_rfl)
                          clear hp hl
                          refine opgoal (_) (some 95) rfl rfl fun K hK => ?_
                          refine Runs.mk ?_
                          simp only [putAll]
                          go_simp
                          refine hK _ _ ?_ hS ⟨fun h => absurd h (by decide), fun h => absurd h (by decide), fun h5 h11 => ((fun w => trivial) W)⟩ _ rfl rfl
                          first | rfl | go_simp | simp
                        · -- 2: Op.load 3 (Operand.tmp 95)
                          intro l hl vs W dn e1 e2 e3 hS hR hp
                          have f5 : dn 5 = false := e3 5 (by kernel_rfl)
                          have f11 : dn 11 = false := e3 11 (by kernel_rfl)
                          replace hS : (fun W => TN w W [(ob, opO p)] b mb N (if (dn 5) then (nn + 1) else nn) (if (dn 5) then f2 else f) L d L (if (dn 11) then cs2 else cs)) W := hS
                          rw [f5, f11] at hS
                          have g5 : (dn 5 || ((2 : Nat) == 5)) = false := by rw [f5]; rfl
                          have g11 : (dn 11 || ((2 : Nat) == 11)) = false := by rw [f11]; rfl
                          refine OpGoal.imp (S1 := fun W => TN w W [(ob, opO p)] b mb N (if false then (nn + 1) else nn) (if false then f2 else f) L d L (if false then cs2 else cs)) (fun W' h => ?_) ?_
                          · show (fun W => TN w W [(ob, opO p)] b mb N (if (dn 5 || ((2 : Nat) == 5)) then (nn + 1) else nn) (if (dn 5 || ((2 : Nat) == 5)) then f2 else f) L d L (if (dn 11 || ((2 : Nat) == 11)) then cs2 else cs)) W'
                            rw [g5, g11]
                            exact h
                          clear g5 g11 e1 e2 e3
                          obtain rfl : l = [(1, 95)] := hl.symm.trans (by kernel_rfl)
                          have p1 : vs 1 = _ := hp 1 (by decide) (by decide)
                          clear hp hl
                          refine opgoal (_) (some 96) rfl rfl fun K hK => ?_
                          obtain ⟨f0, f1, f2, f3⟩ := HCE.out _ _ _ _ _ _ hS
                          refine Runs.mk ?_
                          simp only [putAll]
                          go_simp
                          refine hK _ _ ?_ hS ⟨fun h => absurd h (by decide), fun h => absurd h (by decide), fun h5 h11 => ((fun w => trivial) W)⟩ _ rfl rfl
                          first | rfl | go_simp | simp
                        · -- 3: Op.fieldAddr 39 (Operand.tmp 9) 2
                          intro l hl vs W dn e1 e2 e3 hS hR hp
                          have f5 : dn 5 = false := e3 5 (by kernel_rfl)
                          have f11 : dn 11 = false := e3 11 (by kernel_rfl)
                          replace hS : (fun W => TN w W [(ob, opO p)] b mb N (if (dn 5) then (nn + 1) else nn) (if (dn 5) then f2 else f) L d L (if (dn 11) then cs2 else cs)) W := hS
                          rw [f5, f11] at hS
                          have g5 : (dn 5 || ((3 : Nat) == 5)) = false := by rw [f5]; rfl
                          have g11 : (dn 11 || ((3 : Nat) == 11)) = false := by rw [f11]; rfl
                          refine OpGoal.imp (S1 := fun W => TN w W [(ob, opO p)] b mb N (if false then (nn + 1) else nn) (if false then f2 else f) L d L (if false then cs2 else cs)) (fun W' h => ?_) ?_
                          · show (fun W => TN w W [(ob, opO p)] b mb N (if (dn 5 || ((3 : Nat) == 5)) then (nn + 1) else nn) (if (dn 5 || ((3 : Nat) == 5)) then f2 else f) L d L (if (dn 11 || ((3 : Nat) == 11)) then cs2 else cs)) W'
                            rw [g5, g11]
                            exact h
                          clear g5 g11 e1 e2 e3
                          obtain rfl : l = [] := hl.symm.trans (by kernel_rfl)
                          clear hp hl
                          refine opgoal (_) (some 97) rfl rfl fun K hK => ?_
                          refine Runs.mk ?_
                          simp only [putAll]
                          go_simp
                          refine hK _ _ ?_ hS ⟨fun h => absurd h (by decide), fun h => absurd h (by decide), fun h5 h11 => ((fun w => trivial) W)⟩ _ rfl rfl
                          first | rfl | go_simp | simp
                        · -- 4: Op.load 3 (Operand.tmp 97)
                          intro l hl vs W dn e1 e2 e3 hS hR hp
                          have f5 : dn 5 = false := e3 5 (by kernel_rfl)
                          have f11 : dn 11 = false := e3 11 (by kernel_rfl)
                          replace hS : (fun W => TN w W [(ob, opO p)] b mb N (if (dn 5) then (nn + 1) else nn) (if (dn 5) then f2 else f) L d L (if (dn 11) then cs2 else cs)) W := hS
                          rw [f5, f11] at hS
                          have g5 : (dn 5 || ((4 : Nat) == 5)) = false := by rw [f5]; rfl
                          have g11 : (dn 11 || ((4 : Nat) == 11)) = false := by rw [f11]; rfl
                          refine OpGoal.imp (S1 := fun W => TN w W [(ob, opO p)] b mb N (if false then (nn + 1) else nn) (if false then f2 else f) L d L (if false then cs2 else cs)) (fun W' h => ?_) ?_
                          · show (fun W => TN w W [(ob, opO p)] b mb N (if (dn 5 || ((4 : Nat) == 5)) then (nn + 1) else nn) (if (dn 5 || ((4 : Nat) == 5)) then f2 else f) L d L (if (dn 11 || ((4 : Nat) == 11)) then cs2 else cs)) W'
                            rw [g5, g11]
                            exact h
                          clear g5 g11 e1 e2 e3
                          obtain rfl : l = [(3, 97)] := hl.symm.trans (by kernel_rfl)
                          have p3 : vs 3 = _ := hp 3 (by decide) (by decide)
                          clear hp hl
                          refine opgoal (_) (some 98) rfl rfl fun K hK => ?_
                          obtain ⟨f0, f1, f2, f3⟩ := HCE.out _ _ _ _ _ _ hS
                          refine Runs.mk ?_
                          simp only [putAll]
                          go_simp
                          refine hK _ _ ?_ hS ⟨fun h => absurd h (by decide), fun h => absurd h (by decide), fun h5 h11 => ((fun w => trivial) W)⟩ _ rfl rfl
                          first | rfl | go_simp | simp
                        · -- 5: Op.call { callee := Callee.value (Operand.func 23), args := #[Operand.tmp 94, Operand.tmp 96, Operand.tmp 98], argTypes := #[24, 3, 3] }
                          intro l hl vs W dn e1 e2 e3 hS hR hp
                          have f5 : dn 5 = false := e1
                          have f11 : dn 11 = false := e3 11 (by kernel_rfl)
                          replace hS : (fun W => TN w W [(ob, opO p)] b mb N (if (dn 5) then (nn + 1) else nn) (if (dn 5) then f2 else f) L d L (if (dn 11) then cs2 else cs)) W := hS
                          rw [f5, f11] at hS
                          have g5 : (dn 5 || ((5 : Nat) == 5)) = true := by rw [f5]; rfl
                          have g11 : (dn 11 || ((5 : Nat) == 11)) = false := by rw [f11]; rfl
                          refine OpGoal.imp (S1 := fun W => TN w W [(ob, opO p)] b mb N (if true then (nn + 1) else nn) (if true then f2 else f) L d L (if false then cs2 else cs)) (fun W' h => ?_) ?_
                          · show (fun W => TN w W [(ob, opO p)] b mb N (if (dn 5 || ((5 : Nat) == 5)) then (nn + 1) else nn) (if (dn 5 || ((5 : Nat) == 5)) then f2 else f) L d L (if (dn 11 || ((5 : Nat) == 11)) then cs2 else cs)) W'
                            rw [g5, g11]
                            exact h
                          clear g5 g11 e1 e2 e3
                          obtain rfl : l = [(0, 94), (1, 95), (2, 96), (3, 97), (4, 98)] := hl.symm.trans (by kernel_rfl)
                          have p0 : vs 0 = _ := hp 0 (by decide) (by decide)
                          have p2 : vs 2 = _ := hp 2 (by decide) (by decide)
                          have p4 : vs 4 = _ := hp 4 (by decide) (by decide)
                          clear hp hl
                          refine opgoal (_) (some 99) rfl rfl fun K hK => ?_
                          refine Runs.mk ?_
                          simp only [putAll]
                          go_simp
                          refine (HC1.out W hS).mono ?_
                          rintro e w' ⟨rfl, hn⟩
                          go_simp
                          exact hK _ _ rfl hn ⟨(fun _ => trivial), (fun h => absurd h (by decide)), fun h1 h2 => absurd rfl h1⟩ _ rfl rfl
                        · -- 6: Op.move (Operand.tmp 7)
                          intro l hl vs W dn e1 e2 e3 hS hR hp
                          have f5 : dn 5 = dn 5 := rfl
                          have f11 : dn 11 = false := e3 11 (by kernel_rfl)
                          replace hS : (fun W => TN w W [(ob, opO p)] b mb N (if (dn 5) then (nn + 1) else nn) (if (dn 5) then f2 else f) L d L (if (dn 11) then cs2 else cs)) W := hS
                          rw [f11] at hS
                          have g5 : (dn 5 || ((6 : Nat) == 5)) = dn 5 := Bool.or_false _
                          have g11 : (dn 11 || ((6 : Nat) == 11)) = false := by rw [f11]; rfl
                          refine OpGoal.imp (S1 := fun W => TN w W [(ob, opO p)] b mb N (if (dn 5) then (nn + 1) else nn) (if (dn 5) then f2 else f) L d L (if false then cs2 else cs)) (fun W' h => ?_) ?_
                          · show (fun W => TN w W [(ob, opO p)] b mb N (if (dn 5 || ((6 : Nat) == 5)) then (nn + 1) else nn) (if (dn 5 || ((6 : Nat) == 5)) then f2 else f) L d L (if (dn 11 || ((6 : Nat) == 11)) then cs2 else cs)) W'
                            rw [g5, g11]
                            exact h
                          clear g5 g11 e1 e2 e3
                          obtain rfl : l = [] := hl.symm.trans (by kernel_rfl)
                          clear hp hl
                          refine opgoal (_) (some 100) rfl rfl fun K hK => ?_
                          refine Runs.mk ?_
                          simp only [putAll]
                          go_simp
                          refine hK _ _ ?_ hS ⟨fun h => absurd h (by decide), fun h => absurd h (by decide), fun h5 h11 => ((fun w => trivial) W)⟩ _ rfl rfl
                          first | rfl | go_simp | simp
                        · -- 7: Op.fieldAddr 39 (Operand.tmp 9) 1
                          intro l hl vs W dn e1 e2 e3 hS hR hp
                          have f5 : dn 5 = dn 5 := rfl
                          have f11 : dn 11 = false := e3 11 (by kernel_rfl)
                          replace hS : (fun W => TN w W [(ob, opO p)] b mb N (if (dn 5) then (nn + 1) else nn) (if (dn 5) then f2 else f) L d L (if (dn 11) then cs2 else cs)) W := hS
                          rw [f11] at hS
                          have g5 : (dn 5 || ((7 : Nat) == 5)) = dn 5 := Bool.or_false _
                          have g11 : (dn 11 || ((7 : Nat) == 11)) = false := by rw [f11]; rfl
                          refine OpGoal.imp (S1 := fun W => TN w W [(ob, opO p)] b mb N (if (dn 5) then (nn + 1) else nn) (if (dn 5) then f2 else f) L d L (if false then cs2 else cs)) (fun W' h => ?_) ?_
                          · show (fun W => TN w W [(ob, opO p)] b mb N (if (dn 5 || ((7 : Nat) == 5)) then (nn + 1) else nn) (if (dn 5 || ((7 : Nat) == 5)) then f2 else f) L d L (if (dn 11 || ((7 : Nat) == 11)) then cs2 else cs)) W'
                            rw [g5, g11]
                            exact h
                          clear g5 g11 e1 e2 e3
                          obtain rfl : l = [] := hl.symm.trans (by kernel_rfl)
                          clear hp hl
                          refine opgoal (_) (some 101) rfl rfl fun K hK => ?_
                          refine Runs.mk ?_
                          simp only [putAll]
                          go_simp
                          refine hK _ _ ?_ hS ⟨fun h => absurd h (by decide), fun h => absurd h (by decide), fun h5 h11 => ((fun w => trivial) W)⟩ _ rfl rfl
                          first | rfl | go_simp | simp
                        · -- 8: Op.load 3 (Operand.tmp 101)
                          intro l hl vs W dn e1 e2 e3 hS hR hp
                          have f5 : dn 5 = dn 5 := rfl
                          have f11 : dn 11 = false := e3 11 (by kernel_rfl)
                          replace hS : (fun W => TN w W [(ob, opO p)] b mb N (if (dn 5) then (nn + 1) else nn) (if (dn 5) then f2 else f) L d L (if (dn 11) then cs2 else cs)) W := hS
                          rw [f11] at hS
                          have g5 : (dn 5 || ((8 : Nat) == 5)) = dn 5 := Bool.or_false _
                          have g11 : (dn 11 || ((8 : Nat) == 11)) = false := by rw [f11]; rfl
                          refine OpGoal.imp (S1 := fun W => TN w W [(ob, opO p)] b mb N (if (dn 5) then (nn + 1) else nn) (if (dn 5) then f2 else f) L d L (if false then cs2 else cs)) (fun W' h => ?_) ?_
                          · show (fun W => TN w W [(ob, opO p)] b mb N (if (dn 5 || ((8 : Nat) == 5)) then (nn + 1) else nn) (if (dn 5 || ((8 : Nat) == 5)) then f2 else f) L d L (if (dn 11 || ((8 : Nat) == 11)) then cs2 else cs)) W'
                            rw [g5, g11]
                            exact h
                          clear g5 g11 e1 e2 e3
                          obtain rfl : l = [(7, 101)] := hl.symm.trans (by kernel_rfl)
                          have p7 : vs 7 = _ := hp 7 (by decide) (by decide)
                          clear hp hl
                          refine opgoal (_) (some 102) rfl rfl fun K hK => ?_
                          obtain ⟨f0, f1, f2, f3⟩ := HCE.out _ _ _ _ _ _ hS
                          refine Runs.mk ?_
                          simp only [putAll]
                          go_simp
                          refine hK _ _ ?_ hS ⟨fun h => absurd h (by decide), fun h => absurd h (by decide), fun h5 h11 => ((fun w => trivial) W)⟩ _ rfl rfl
                          first | rfl | go_simp | simp
                        · -- 9: Op.fieldAddr 39 (Operand.tmp 9) 2
                          intro l hl vs W dn e1 e2 e3 hS hR hp
                          have f5 : dn 5 = dn 5 := rfl
                          have f11 : dn 11 = false := e3 11 (by kernel_rfl)
                          replace hS : (fun W => TN w W [(ob, opO p)] b mb N (if (dn 5) then (nn + 1) else nn) (if (dn 5) then f2 else f) L d L (if (dn 11) then cs2 else cs)) W := hS
                          rw [f11] at hS
                          have g5 : (dn 5 || ((9 : Nat) == 5)) = dn 5 := Bool.or_false _
                          have g11 : (dn 11 || ((9 : Nat) == 11)) = false := by rw [f11]; rfl
                          refine OpGoal.imp (S1 := fun W => TN w W [(ob, opO p)] b mb N (if (dn 5) then (nn + 1) else nn) (if (dn 5) then f2 else f) L d L (if false then cs2 else cs)) (fun W' h => ?_) ?_
                          · show (fun W => TN w W [(ob, opO p)] b mb N (if (dn 5 || ((9 : Nat) == 5)) then (nn + 1) else nn) (if (dn 5 || ((9 : Nat) == 5)) then f2 else f) L d L (if (dn 11 || ((9 : Nat) == 11)) then cs2 else cs)) W'
                            rw [g5, g11]
                            exact h
                          clear g5 g11 e1 e2 e3
                          obtain rfl : l = [] := hl.symm.trans (by kernel_rfl)
                          clear hp hl
                          refine opgoal (_) (some 103) rfl rfl fun K hK => ?_
                          refine Runs.mk ?_
                          simp only [putAll]
                          go_simp
                          refine hK _ _ ?_ hS ⟨fun h => absurd h (by decide), fun h => absurd h (by decide), fun h5 h11 => ((fun w => trivial) W)⟩ _ rfl rfl
                          first | rfl | go_simp | simp
                        · -- 10: Op.load 3 (Operand.tmp 103)
                          intro l hl vs W dn e1 e2 e3 hS hR hp
                          have f5 : dn 5 = dn 5 := rfl
                          have f11 : dn 11 = false := e3 11 (by kernel_rfl)
                          replace hS : (fun W => TN w W [(ob, opO p)] b mb N (if (dn 5) then (nn + 1) else nn) (if (dn 5) then f2 else f) L d L (if (dn 11) then cs2 else cs)) W := hS
                          rw [f11] at hS
                          have g5 : (dn 5 || ((10 : Nat) == 5)) = dn 5 := Bool.or_false _
                          have g11 : (dn 11 || ((10 : Nat) == 11)) = false := by rw [f11]; rfl
                          refine OpGoal.imp (S1 := fun W => TN w W [(ob, opO p)] b mb N (if (dn 5) then (nn + 1) else nn) (if (dn 5) then f2 else f) L d L (if false then cs2 else cs)) (fun W' h => ?_) ?_
                          · show (fun W => TN w W [(ob, opO p)] b mb N (if (dn 5 || ((10 : Nat) == 5)) then (nn + 1) else nn) (if (dn 5 || ((10 : Nat) == 5)) then f2 else f) L d L (if (dn 11 || ((10 : Nat) == 11)) then cs2 else cs)) W'
                            rw [g5, g11]
                            exact h
                          clear g5 g11 e1 e2 e3
                          obtain rfl : l = [(9, 103)] := hl.symm.trans (by kernel_rfl)
                          have p9 : vs 9 = _ := hp 9 (by decide) (by decide)
                          clear hp hl
                          refine opgoal (_) (some 104) rfl rfl fun K hK => ?_
                          obtain ⟨f0, f1, f2, f3⟩ := HCE.out _ _ _ _ _ _ hS
                          refine Runs.mk ?_
                          simp only [putAll]
                          go_simp
                          refine hK _ _ ?_ hS ⟨fun h => absurd h (by decide), fun h => absurd h (by decide), fun h5 h11 => ((fun w => trivial) W)⟩ _ rfl rfl
                          first | rfl | go_simp | simp
                        · -- 11: Op.call { callee := Callee.value (Operand.func 30), args := #[Operand.tmp 100, Operand.tmp 102, Operand.tmp 104, Operand.const (Value.bool true)], arg
                          intro l hl vs W dn e1 e2 e3 hS hR hp
                          have f5 : dn 5 = true := e2 5 (by kernel_rfl)
                          have f11 : dn 11 = false := e1
                          replace hS : (fun W => TN w W [(ob, opO p)] b mb N (if (dn 5) then (nn + 1) else nn) (if (dn 5) then f2 else f) L d L (if (dn 11) then cs2 else cs)) W := hS
                          rw [f5, f11] at hS
                          have g5 : (dn 5 || ((11 : Nat) == 5)) = true := by rw [f5]; rfl
                          have g11 : (dn 11 || ((11 : Nat) == 11)) = true := by rw [f11]; rfl
                          refine OpGoal.imp (S1 := fun W => TN w W [(ob, opO p)] b mb N (if true then (nn + 1) else nn) (if true then f2 else f) L d L (if true then cs2 else cs)) (fun W' h => ?_) ?_
                          · show (fun W => TN w W [(ob, opO p)] b mb N (if (dn 5 || ((11 : Nat) == 5)) then (nn + 1) else nn) (if (dn 5 || ((11 : Nat) == 5)) then f2 else f) L d L (if (dn 11 || ((11 : Nat) == 11)) then cs2 else cs)) W'
                            rw [g5, g11]
                            exact h
                          clear g5 g11 e1 e2 e3
                          obtain rfl : l = [(0, 94), (1, 95), (2, 96), (3, 97), (4, 98), (5, 99), (6, 100), (7, 101), (8, 102), (9, 103), (10, 104)] := hl.symm.trans (by kernel_rfl)
                          have p6 : vs 6 = _ := hp 6 (by decide) (by decide)
                          have p8 : vs 8 = _ := hp 8 (by decide) (by decide)
                          have p10 : vs 10 = _ := hp 10 (by decide) (by decide)
                          clear hp hl
                          refine opgoal (_) (some 105) rfl rfl fun K hK => ?_
                          refine Runs.mk ?_
                          simp only [putAll]
                          go_simp
                          refine (HC2.out W hS).mono ?_
                          rintro e w' ⟨rfl, hn⟩
                          go_simp
                          exact hK _ _ rfl hn ⟨(fun h => absurd h (by decide)), (fun _ => trivial), fun h1 h2 => absurd rfl h2⟩ _ rfl rfl
                        · -- 12: Op.assign (Operand.tmp 99)
                          intro l hl vs W dn e1 e2 e3 hS hR hp
                          have f5 : dn 5 = true := e2 5 (by kernel_rfl)
                          have f11 : dn 11 = true := e2 11 (by kernel_rfl)
                          replace hS : (fun W => TN w W [(ob, opO p)] b mb N (if (dn 5) then (nn + 1) else nn) (if (dn 5) then f2 else f) L d L (if (dn 11) then cs2 else cs)) W := hS
                          rw [f5, f11] at hS
                          have g5 : (dn 5 || ((12 : Nat) == 5)) = true := by rw [f5]; rfl
                          have g11 : (dn 11 || ((12 : Nat) == 11)) = true := by rw [f11]; rfl
                          refine OpGoal.imp (S1 := fun W => TN w W [(ob, opO p)] b mb N (if true then (nn + 1) else nn) (if true then f2 else f) L d L (if true then cs2 else cs)) (fun W' h => ?_) ?_
                          · show (fun W => TN w W [(ob, opO p)] b mb N (if (dn 5 || ((12 : Nat) == 5)) then (nn + 1) else nn) (if (dn 5 || ((12 : Nat) == 5)) then f2 else f) L d L (if (dn 11 || ((12 : Nat) == 11)) then cs2 else cs)) W'
                            rw [g5, g11]
                            exact h
                          clear g5 g11 e1 e2 e3
                          obtain rfl : l = [(0, 94), (1, 95), (2, 96), (3, 97), (4, 98), (5, 99), (6, 100), (7, 101), (8, 102), (9, 103), (10, 104), (11, 105)] := hl.symm.trans (by kernel_rfl)
                          have p5 : vs 5 = _ := hp 5 (by decide) (by decide)
                          clear hp hl
                          refine opgoal ({ dst := some 10, op := Op.assign (Operand.tmp 99), type := 25, pos := "law.go:79", after := #[{ on := 5, ground := Ground.data }, { on := 11, ground := Ground.chain }, { on := 0, ground := Ground.phase }, { on := 1, ground := Ground.phase }, { on := 2, ground := Ground.phase }, { on := 3, ground := Ground.phase }, { on := 4, ground := Ground.phase }, { on := 5, ground := Ground.phase }, { on := 6, ground := Ground.textOnly Departure.lateStores }, { on := 7, ground := Ground.textOnly Departure.lateStores }, { on := 8, ground := Ground.textOnly Departure.lateStores }, { on := 9, ground := Ground.textOnly Departure.lateStores }, { on := 10, ground := Ground.textOnly Departure.lateStores }, { on := 11, ground := Ground.textOnly Departure.lateStoresUnsure }], guard := none }) (some 10) rfl rfl fun K hK => ?_
                          refine runs_assign (wanted_none rfl) (.tmp 99) rfl (.int .i64 r) (eval_putAll (j := 5) (by simp) (by decide) (by intro k hk; simpa using hk) p5) ?_
                          exact hK _ _ rfl hS ⟨(fun h => absurd h (by decide)), (fun h => absurd h (by decide)), fun h1 h2 => trivial⟩ _ put_dfs (put_slot (by simp))
                        · -- 13: Op.assign (Operand.tmp 105)
                          intro l hl vs W dn e1 e2 e3 hS hR hp
                          have f5 : dn 5 = true := e2 5 (by kernel_rfl)
                          have f11 : dn 11 = true := e2 11 (by kernel_rfl)
                          replace hS : (fun W => TN w W [(ob, opO p)] b mb N (if (dn 5) then (nn + 1) else nn) (if (dn 5) then f2 else f) L d L (if (dn 11) then cs2 else cs)) W := hS
                          rw [f5, f11] at hS
                          have g5 : (dn 5 || ((13 : Nat) == 5)) = true := by rw [f5]; rfl
                          have g11 : (dn 11 || ((13 : Nat) == 11)) = true := by rw [f11]; rfl
                          refine OpGoal.imp (S1 := fun W => TN w W [(ob, opO p)] b mb N (if true then (nn + 1) else nn) (if true then f2 else f) L d L (if true then cs2 else cs)) (fun W' h => ?_) ?_
                          · show (fun W => TN w W [(ob, opO p)] b mb N (if (dn 5 || ((13 : Nat) == 5)) then (nn + 1) else nn) (if (dn 5 || ((13 : Nat) == 5)) then f2 else f) L d L (if (dn 11 || ((13 : Nat) == 11)) then cs2 else cs)) W'
                            rw [g5, g11]
                            exact h
                          clear g5 g11 e1 e2 e3
                          obtain rfl : l = [(0, 94), (1, 95), (2, 96), (3, 97), (4, 98), (5, 99), (6, 100), (7, 101), (8, 102), (9, 103), (10, 104), (11, 105), (12, 10)] := hl.symm.trans (by kernel_rfl)
                          have p11 : vs 11 = _ := hp 11 (by decide) (by decide)
                          clear hp hl
                          refine opgoal ({ dst := some 11, op := Op.assign (Operand.tmp 105), type := 3, pos := "law.go:79", after := #[{ on := 11, ground := Ground.data }, { on := 12, ground := Ground.chain }, { on := 0, ground := Ground.phase }, { on := 1, ground := Ground.phase }, { on := 2, ground := Ground.phase }, { on := 3, ground := Ground.phase }, { on := 4, ground := Ground.phase }, { on := 5, ground := Ground.phase }, { on := 6, ground := Ground.phase }, { on := 7, ground := Ground.phase }, { on := 8, ground := Ground.phase }, { on := 9, ground := Ground.phase }, { on := 10, ground := Ground.phase }, { on := 11, ground := Ground.phase }, { on := 12, ground := Ground.phase }], guard := none }) (some 11) rfl rfl fun K hK => ?_
                          refine runs_assign (wanted_none rfl) (.tmp 105) rfl (.int .i64 r) (eval_putAll (j := 11) (by simp) (by decide) (by intro k hk; simpa using hk) p11) ?_
                          exact hK _ _ rfl hS ⟨(fun h => absurd h (by decide)), (fun h => absurd h (by decide)), fun h1 h2 => trivial⟩ _ put_dfs (put_slot (by simp))
                      · intro l hl vs W dn hd hS hR hp
                        replace hS : (fun W => TN w W [(ob, opO p)] b mb N (if (dn 5) then (nn + 1) else nn) (if (dn 5) then f2 else f) L d L (if (dn 11) then cs2 else cs)) W := hS
                        rw [hd 5 (by decide), hd 11 (by decide)] at hS
                        obtain rfl : l = [(0, 94), (1, 95), (2, 96), (3, 97), (4, 98), (5, 99), (6, 100), (7, 101), (8, 102), (9, 103), (10, 104), (11, 105), (12, 10), (13, 11)] := hl.symm.trans (by kernel_rfl)
                        have p0 : vs 0 = _ := hp 0 (by decide) (by decide)
                        have p1 : vs 1 = _ := hp 1 (by decide) (by decide)
                        have p2 : vs 2 = _ := hp 2 (by decide) (by decide)
                        have p3 : vs 3 = _ := hp 3 (by decide) (by decide)
                        have p4 : vs 4 = _ := hp 4 (by decide) (by decide)
                        have p5 : vs 5 = _ := hp 5 (by decide) (by decide)
                        have p6 : vs 6 = _ := hp 6 (by decide) (by decide)
                        have p7 : vs 7 = _ := hp 7 (by decide) (by decide)
                        have p8 : vs 8 = _ := hp 8 (by decide) (by decide)
                        have p9 : vs 9 = _ := hp 9 (by decide) (by decide)
                        have p10 : vs 10 = _ := hp 10 (by decide) (by decide)
                        have p11 : vs 11 = _ := hp 11 (by decide) (by decide)
                        have p12 : vs 12 = _ := hp 12 (by decide) (by decide)
                        have p13 : vs 13 = _ := hp 13 (by decide) (by decide)
                        clear hp hl
                        simp only [putAll_mk, setAll, List.setIfInBounds_toArray, List.set_cons_succ, List.set_cons_zero, p0, p1, p2, p3, p4, p5, p6, p7, p8, p9, p10, p11, p12, p13]
                        have HS := Lib.hid hS
                        clear hS hR hS0
                        go_wp2_with fail
                        go_meet
                        exact ⟨_, _, rfl, rfl, HF2.out _ HS.out⟩
                  · have e3 : (ok == 3) = false := by simpa using k3
                    by_cases k4 : ok = 4
                    · have e4 : (ok == 4) = true := by simpa using k4
                      as_aux_lemma =>
                        have hcl := setL_len cs oa oB false
                        have hco := HQ.out.2.2.1.set oa oB false
                        have h1 : ∀ W, TN w W [(ob, opO p)] b mb N nn f L d L cs → _ := fun W h => tn_heal h HBN.out.1 oa oB hls.out.2.2.2.2.1 hls.out.2.2.2.2.2
                        have h2 : ∀ W, TN w W [(ob, opO p)] b mb N (nn + 1) (if okW N oa oB then upd f oa oB false else f) L d L cs → _ := fun W h => tn_dset h HBN.out.2 oa oB false
                        obtain ⟨r, hr⟩ : ∃ r : Int, (if okW N oa oB then (0 : Int) else 1) = r := ⟨_, rfl⟩
                        obtain ⟨f2, hf2⟩ : ∃ f2, (if okW N oa oB then upd f oa oB false else f) = f2 := ⟨_, rfl⟩
                        obtain ⟨cs2, hcs2⟩ : ∃ cs2, (if okW N oa oB then setL cs oa oB false else cs) = cs2 := ⟨_, rfl⟩
                        have hco2 : Coh f2 cs2 := by rw [← hf2, ← hcs2]; cases okW N oa oB <;> simp only [if_true, Bool.false_eq_true, if_false] <;> first | exact hco | exact HQ.out.2.2.1
                        have hcl2 : cs2.length ≤ cs.length + 1 := by rw [← hcs2]; cases okW N oa oB <;> simp only [if_true, Bool.false_eq_true, if_false] <;> omega
                        rw [hr, hf2] at h1
                        rw [hr, hf2, hcs2] at h2
                        have HC1 := Lib.hid h1
                        have HC2 := Lib.hid h2
                        have HF2 := HFIN (nn + 1) f2 L cs2 (by omega) hcl2 hco2 HQ.out.2.2.2 hL256
                        have hS0 : TN w W.drew [(ob, opO p)] b mb N nn f L d L cs := HNP.out.below (below_drewN 1 W)
                        clear k0 k1 k2 k3 k4 HFIN h1 h2 hr hf2 hcs2 hco2 hcl2 hco hcl
                        go_wp2_with fail
                        clear c0 c1 c2 c3
                        refine wp_region_done (fun dnf => fun W => TN w W [(ob, opO p)] b mb N (if (dnf 5) then (nn + 1) else nn) (if (dnf 5) then f2 else f) L d L (if (dnf 11) then cs2 else cs)) (fun _ _ => True) (fun k u v => (k = 5 → (fun _ _ => True) u v) ∧ (k = 11 → (fun _ _ => True) u v) ∧ (¬ k = 5 → ¬ k = 11 → (fun _ _ => True) u v)) (fun a i => match i with
                            | 0 => (fun v _ => v = .pointer (some ⟨b, 0, none⟩))
                            | 1 => (fun v _ => v = .pointer (some ⟨ob, 1, none⟩))
                            | 2 => (fun v _ => v = .int .i64 oa)
                            | 3 => (fun v _ => v = .pointer (some ⟨ob, 2, none⟩))
                            | 4 => (fun v _ => v = .int .i64 oB)
                            | 5 => (fun v _ => v = .int .i64 r)
                            | 6 => (fun v _ => v = .pointer (some ⟨d, 0, none⟩))
                            | 7 => (fun v _ => v = .pointer (some ⟨ob, 1, none⟩))
                            | 8 => (fun v _ => v = .int .i64 oa)
                            | 9 => (fun v _ => v = .pointer (some ⟨ob, 2, none⟩))
                            | 10 => (fun v _ => v = .int .i64 oB)
                            | 11 => (fun v _ => v = .int .i64 r)
                            | 12 => (fun v _ => v = .int .i64 r)
                            | 13 => (fun v _ => v = .int .i64 r)
                            | _ => (fun _ _ => True)) #[0, 0, 2, 0, 8, 31, 0, 0, 128, 0, 512, 2047, 4095, 8191] #[0, 0, 2, 0, 8, 21, 0, 0, 128, 0, 512, 1344, 32, 2048] 16383 (by kernel_rfl) 14 rfl (fun m hm => by subst hm; kernel_rfl) (by kernel_rfl) (fun w => trivial) (fun u v w h1 h2 => trivial) ?_ ?_ (hS0) ?_ ?_
                        · intro k u v hk hr
                          by_cases hs5 : k = 5
                          · have h := hr.1 hs5; exact trivial
                          by_cases hs11 : k = 11
                          · have h := hr.2.1 hs11; exact trivial
                          have h := hr.2.2 hs5 hs11; exact trivial
                        · intro i hi
                          rcases (by omega : i = 0 ∨ i = 1 ∨ i = 2 ∨ i = 3 ∨ i = 4 ∨ i = 5 ∨ i = 6 ∨ i = 7 ∨ i = 8 ∨ i = 9 ∨ i = 10 ∨ i = 11 ∨ i = 12 ∨ i = 13) with rfl | rfl | rfl | rfl | rfl | rfl | rfl | rfl | rfl | rfl | rfl | rfl | rfl | rfl
                          · intro k hk y hy hyt v w w' h hr
                            exact h
                          · intro k hk y hy hyt v w w' h hr
                            exact h
                          · intro k hk y hy hyt v w w' h hr
                            exact h
                          · intro k hk y hy hyt v w w' h hr
                            exact h
                          · intro k hk y hy hyt v w w' h hr
                            exact h
                          · intro k hk y hy hyt v w w' h hr
                            exact h
                          · intro k hk y hy hyt v w w' h hr
                            exact h
                          · intro k hk y hy hyt v w w' h hr
                            exact h
                          · intro k hk y hy hyt v w w' h hr
                            exact h
                          · intro k hk y hy hyt v w w' h hr
                            exact h
                          · intro k hk y hy hyt v w w' h hr
                            exact h
                          · intro k hk y hy hyt v w w' h hr
                            exact h
                          · intro k hk y hy hyt v w w' h hr
                            exact h
                          · intro k hk y hy hyt v w w' h hr
                            exact h
                        · intro i hi
                          rcases (by omega : i = 0 ∨ i = 1 ∨ i = 2 ∨ i = 3 ∨ i = 4 ∨ i = 5 ∨ i = 6 ∨ i = 7 ∨ i = 8 ∨ i = 9 ∨ i = 10 ∨ i = 11 ∨ i = 12 ∨ i = 13) with rfl | rfl | rfl | rfl | rfl | rfl | rfl | rfl | rfl | rfl | rfl | rfl | rfl | rfl
                          · -- 0: Op.move (Operand.tmp 5)
                            intro l hl vs W dn e1 e2 e3 hS hR hp
                            have f5 : dn 5 = false := e3 5 (by kernel_rfl)
                            have f11 : dn 11 = false := e3 11 (by kernel_rfl)
                            replace hS : (fun W => TN w W [(ob, opO p)] b mb N (if (dn 5) then (nn + 1) else nn) (if (dn 5) then f2 else f) L d L (if (dn 11) then cs2 else cs)) W := hS
                            rw [f5, f11] at hS
                            have g5 : (dn 5 || ((0 : Nat) == 5)) = false := by rw [f5]; rfl
                            have g11 : (dn 11 || ((0 : Nat) == 11)) = false := by rw [f11]; rfl
                            refine OpGoal.imp (S1 := fun W => TN w W [(ob, opO p)] b mb N (if false then (nn + 1) else nn) (if false then f2 else f) L d L (if false then cs2 else cs)) (fun W' h => ?_) ?_
                            · show (fun W => TN w W [(ob, opO p)] b mb N (if (dn 5 || ((0 : Nat) == 5)) then (nn + 1) else nn) (if (dn 5 || ((0 : Nat) == 5)) then f2 else f) L d L (if (dn 11 || ((0 : Nat) == 11)) then cs2 else cs)) W'
                              rw [g5, g11]
                              exact h
                            clear g5 g11 e1 e2 e3
                            obtain rfl : l = [] := hl.symm.trans (by kernel_rfl)
                            clear hp hl
                            refine opgoal (_) (some 108) rfl rfl fun K hK => ?_
                            refine Runs.mk ?_
                            simp only [putAll]
                            go_simp
                            refine hK _ _ ?_ hS ⟨fun h => absurd h (by decide), fun h => absurd h (by decide), fun h5 h11 => ((fun w => trivial) W)⟩ _ rfl rfl
                            first | rfl | go_simp | simp
                          · -- 1: Op.fieldAddr 39 (Operand.tmp 9) 1
                            intro l hl vs W dn e1 e2 e3 hS hR hp
                            have f5 : dn 5 = false := e3 5 (by kernel_rfl)
                            have f11 : dn 11 = false := e3 11 (by kernel_rfl)
                            replace hS : (fun W => TN w W [(ob, opO p)] b mb N (if (dn 5) then (nn + 1) else nn) (if (dn 5) then f2 else f) L d L (if (dn 11) then cs2 else cs)) W := hS
                            rw [f5, f11] at hS
                            have g5 : (dn 5 || ((1 : Nat) == 5)) = false := by rw [f5]; rfl
                            have g11 : (dn 11 || ((1 : Nat) == 11)) = false := by rw [f11]; rfl
                            refine OpGoal.imp (S1 := fun W => TN w W [(ob, opO p)] b mb N (if false then (nn + 1) else nn) (if false then f2 else f) L d L (if false then cs2 else cs)) (fun W' h => ?_) ?_
                            · show (fun W => TN w W [(ob, opO p)] b mb N (if (dn 5 || ((1 : Nat) == 5)) then (nn + 1) else nn) (if (dn 5 || ((1 : Nat) == 5)) then f2 else f) L d L (if (dn 11 || ((1 : Nat) == 11)) then cs2 else cs)) W'
                              rw [g5, g11]
                              exact h
                            clear g5 g11 e1 e2 e3
                            obtain rfl : l = [] := hl.symm.trans (by kernel_rfl)
                            clear hp hl
                            refine opgoal (_) (some 109) rfl rfl fun K hK => ?_
                            refine Runs.mk ?_
                            simp only [putAll]
                            go_simp
                            refine hK _ _ ?_ hS ⟨fun h => absurd h (by decide), fun h => absurd h (by decide), fun h5 h11 => ((fun w => trivial) W)⟩ _ rfl rfl
                            first | rfl | go_simp | simp
                          · -- 2: Op.load 3 (Operand.tmp 109)
                            intro l hl vs W dn e1 e2 e3 hS hR hp
                            have f5 : dn 5 = false := e3 5 (by kernel_rfl)
                            have f11 : dn 11 = false := e3 11 (by kernel_rfl)
                            replace hS : (fun W => TN w W [(ob, opO p)] b mb N (if (dn 5) then (nn + 1) else nn) (if (dn 5) then f2 else f) L d L (if (dn 11) then cs2 else cs)) W := hS
                            rw [f5, f11] at hS
                            have g5 : (dn 5 || ((2 : Nat) == 5)) = false := by rw [f5]; rfl
                            have g11 : (dn 11 || ((2 : Nat) == 11)) = false := by rw [f11]; rfl
                            refine OpGoal.imp (S1 := fun W => TN w W [(ob, opO p)] b mb N (if false then (nn + 1) else nn) (if false then f2 else f) L d L (if false then cs2 else cs)) (fun W' h => ?_) ?_
                            · show (fun W => TN w W [(ob, opO p)] b mb N (if (dn 5 || ((2 : Nat) == 5)) then (nn + 1) else nn) (if (dn 5 || ((2 : Nat) == 5)) then f2 else f) L d L (if (dn 11 || ((2 : Nat) == 11)) then cs2 else cs)) W'
                              rw [g5, g11]
                              exact h
                            clear g5 g11 e1 e2 e3
                            obtain rfl : l = [(1, 109)] := hl.symm.trans (by kernel_rfl)
                            have p1 : vs 1 = _ := hp 1 (by decide) (by decide)
                            clear hp hl
                            refine opgoal (_) (some 110) rfl rfl fun K hK => ?_
                            obtain ⟨f0, f1, f2, f3⟩ := HCE.out _ _ _ _ _ _ hS
                            refine Runs.mk ?_
                            simp only [putAll]
                            go_simp
                            refine hK _ _ ?_ hS ⟨fun h => absurd h (by decide), fun h => absurd h (by decide), fun h5 h11 => ((fun w => trivial) W)⟩ _ rfl rfl
                            first | rfl | go_simp | simp
                          · -- 3: Op.fieldAddr 39 (Operand.tmp 9) 2
                            intro l hl vs W dn e1 e2 e3 hS hR hp
                            have f5 : dn 5 = false := e3 5 (by kernel_rfl)
                            have f11 : dn 11 = false := e3 11 (by kernel_rfl)
                            replace hS : (fun W => TN w W [(ob, opO p)] b mb N (if (dn 5) then (nn + 1) else nn) (if (dn 5) then f2 else f) L d L (if (dn 11) then cs2 else cs)) W := hS
                            rw [f5, f11] at hS
                            have g5 : (dn 5 || ((3 : Nat) == 5)) = false := by rw [f5]; rfl
                            have g11 : (dn 11 || ((3 : Nat) == 11)) = false := by rw [f11]; rfl
                            refine OpGoal.imp (S1 := fun W => TN w W [(ob, opO p)] b mb N (if false then (nn + 1) else nn) (if false then f2 else f) L d L (if false then cs2 else cs)) (fun W' h => ?_) ?_
                            · show (fun W => TN w W [(ob, opO p)] b mb N (if (dn 5 || ((3 : Nat) == 5)) then (nn + 1) else nn) (if (dn 5 || ((3 : Nat) == 5)) then f2 else f) L d L (if (dn 11 || ((3 : Nat) == 11)) then cs2 else cs)) W'
                              rw [g5, g11]
                              exact h
                            clear g5 g11 e1 e2 e3
                            obtain rfl : l = [] := hl.symm.trans (by kernel_rfl)
                            clear hp hl
                            refine opgoal (_) (some 111) rfl rfl fun K hK => ?_
                            refine Runs.mk ?_
                            simp only [putAll]
                            go_simp
                            refine hK _ _ ?_ hS ⟨fun h => absurd h (by decide), fun h => absurd h (by decide), fun h5 h11 => ((fun w => trivial) W)⟩ _ rfl rfl
                            first | rfl | go_simp | simp
                          · -- 4: Op.load 3 (Operand.tmp 111)
                            intro l hl vs W dn e1 e2 e3 hS hR hp
                            have f5 : dn 5 = false := e3 5 (by kernel_rfl)
                            have f11 : dn 11 = false := e3 11 (by kernel_rfl)
                            replace hS : (fun W => TN w W [(ob, opO p)] b mb N (if (dn 5) then (nn + 1) else nn) (if (dn 5) then f2 else f) L d L (if (dn 11) then cs2 else cs)) W := hS
                            rw [f5, f11] at hS
                            have g5 : (dn 5 || ((4 : Nat) == 5)) = false := by rw [f5]; rfl
                            have g11 : (dn 11 || ((4 : Nat) == 11)) = false := by rw [f11]; rfl
                            refine OpGoal.imp (S1 := fun W => TN w W [(ob, opO p)] b mb N (if false then (nn + 1) else nn) (if false then f2 else f) L d L (if false then cs2 else cs)) (fun W' h => ?_) ?_
                            · show (fun W => TN w W [(ob, opO p)] b mb N (if (dn 5 || ((4 : Nat) == 5)) then (nn + 1) else nn) (if (dn 5 || ((4 : Nat) == 5)) then f2 else f) L d L (if (dn 11 || ((4 : Nat) == 11)) then cs2 else cs)) W'
                              rw [g5, g11]
                              exact h
                            clear g5 g11 e1 e2 e3
                            obtain rfl : l = [(3, 111)] := hl.symm.trans (by kernel_rfl)
                            have p3 : vs 3 = _ := hp 3 (by decide) (by decide)
                            clear hp hl
                            refine opgoal (_) (some 112) rfl rfl fun K hK => ?_
                            obtain ⟨f0, f1, f2, f3⟩ := HCE.out _ _ _ _ _ _ hS
                            refine Runs.mk ?_
                            simp only [putAll]
                            go_simp
                            refine hK _ _ ?_ hS ⟨fun h => absurd h (by decide), fun h => absurd h (by decide), fun h5 h11 => ((fun w => trivial) W)⟩ _ rfl rfl
                            first | rfl | go_simp | simp
                          · -- 5: Op.call { callee := Callee.value (Operand.func 24), args := #[Operand.tmp 108, Operand.tmp 110, Operand.tmp 112], argTypes := #[24, 3, 3] }
                            intro l hl vs W dn e1 e2 e3 hS hR hp
                            have f5 : dn 5 = false := e1
                            have f11 : dn 11 = false := e3 11 (by kernel_rfl)
                            replace hS : (fun W => TN w W [(ob, opO p)] b mb N (if (dn 5) then (nn + 1) else nn) (if (dn 5) then f2 else f) L d L (if (dn 11) then cs2 else cs)) W := hS
                            rw [f5, f11] at hS
                            have g5 : (dn 5 || ((5 : Nat) == 5)) = true := by rw [f5]; rfl
                            have g11 : (dn 11 || ((5 : Nat) == 11)) = false := by rw [f11]; rfl
                            refine OpGoal.imp (S1 := fun W => TN w W [(ob, opO p)] b mb N (if true then (nn + 1) else nn) (if true then f2 else f) L d L (if false then cs2 else cs)) (fun W' h => ?_) ?_
                            · show (fun W => TN w W [(ob, opO p)] b mb N (if (dn 5 || ((5 : Nat) == 5)) then (nn + 1) else nn) (if (dn 5 || ((5 : Nat) == 5)) then f2 else f) L d L (if (dn 11 || ((5 : Nat) == 11)) then cs2 else cs)) W'
                              rw [g5, g11]
                              exact h
                            clear g5 g11 e1 e2 e3
                            obtain rfl : l = [(0, 108), (1, 109), (2, 110), (3, 111), (4, 112)] := hl.symm.trans (by kernel_rfl)
                            have p0 : vs 0 = _ := hp 0 (by decide) (by decide)
                            have p2 : vs 2 = _ := hp 2 (by decide) (by decide)
                            have p4 : vs 4 = _ := hp 4 (by decide) (by decide)
                            clear hp hl
                            refine opgoal (_) (some 113) rfl rfl fun K hK => ?_
                            refine Runs.mk ?_
                            simp only [putAll]
                            go_simp
                            refine (HC1.out W hS).mono ?_
                            rintro e w' ⟨rfl, hn⟩
                            go_simp
                            exact hK _ _ rfl hn ⟨(fun _ => trivial), (fun h => absurd h (by decide)), fun h1 h2 => absurd rfl h1⟩ _ rfl rfl
                          · -- 6: Op.move (Operand.tmp 7)
                            intro l hl vs W dn e1 e2 e3 hS hR hp
                            have f5 : dn 5 = dn 5 := rfl
                            have f11 : dn 11 = false := e3 11 (by kernel_rfl)
                            replace hS : (fun W => TN w W [(ob, opO p)] b mb N (if (dn 5) then (nn + 1) else nn) (if (dn 5) then f2 else f) L d L (if (dn 11) then cs2 else cs)) W := hS
                            rw [f11] at hS
                            have g5 : (dn 5 || ((6 : Nat) == 5)) = dn 5 := Bool.or_false _
                            have g11 : (dn 11 || ((6 : Nat) == 11)) = false := by rw [f11]; rfl
                            refine OpGoal.imp (S1 := fun W => TN w W [(ob, opO p)] b mb N (if (dn 5) then (nn + 1) else nn) (if (dn 5) then f2 else f) L d L (if false then cs2 else cs)) (fun W' h => ?_) ?_
                            · show (fun W => TN w W [(ob, opO p)] b mb N (if (dn 5 || ((6 : Nat) == 5)) then (nn + 1) else nn) (if (dn 5 || ((6 : Nat) == 5)) then f2 else f) L d L (if (dn 11 || ((6 : Nat) == 11)) then cs2 else cs)) W'
                              rw [g5, g11]
                              exact h
                            clear g5 g11 e1 e2 e3
                            obtain rfl : l = [] := hl.symm.trans (by kernel_rfl)
                            clear hp hl
                            refine opgoal (_) (some 114) rfl rfl fun K hK => ?_
                            refine Runs.mk ?_
                            simp only [putAll]
                            go_simp
                            refine hK _ _ ?_ hS ⟨fun h => absurd h (by decide), fun h => absurd h (by decide), fun h5 h11 => ((fun w => trivial) W)⟩ _ rfl rfl
                            first | rfl | go_simp | simp
                          · -- 7: Op.fieldAddr 39 (Operand.tmp 9) 1
                            intro l hl vs W dn e1 e2 e3 hS hR hp
                            have f5 : dn 5 = dn 5 := rfl
                            have f11 : dn 11 = false := e3 11 (by kernel_rfl)
                            replace hS : (fun W => TN w W [(ob, opO p)] b mb N (if (dn 5) then (nn + 1) else nn) (if (dn 5) then f2 else f) L d L (if (dn 11) then cs2 else cs)) W := hS
                            rw [f11] at hS
                            have g5 : (dn 5 || ((7 : Nat) == 5)) = dn 5 := Bool.or_false _
                            have g11 : (dn 11 || ((7 : Nat) == 11)) = false := by rw [f11]; rfl
                            refine OpGoal.imp (S1 := fun W => TN w W [(ob, opO p)] b mb N (if (dn 5) then (nn + 1) else nn) (if (dn 5) then f2 else f) L d L (if false then cs2 else cs)) (fun W' h => ?_) ?_
                            · show (fun W => TN w W [(ob, opO p)] b mb N (if (dn 5 || ((7 : Nat) == 5)) then (nn + 1) else nn) (if (dn 5 || ((7 : Nat) == 5)) then f2 else f) L d L (if (dn 11 || ((7 : Nat) == 11)) then cs2 else cs)) W'
                              rw [g5, g11]
                              exact h
                            clear g5 g11 e1 e2 e3
                            obtain rfl : l = [] := hl.symm.trans (by kernel_rfl)
                            clear hp hl
                            refine opgoal (_) (some 115) rfl rfl fun K hK => ?_
                            refine Runs.mk ?_
                            simp only [putAll]
                            go_simp
                            refine hK _ _ ?_ hS ⟨fun h => absurd h (by decide), fun h => absurd h (by decide), fun h5 h11 => ((fun w => trivial) W)⟩ _ rfl rfl
                            first | rfl | go_simp | simp
                          · -- 8: Op.load 3 (Operand.tmp 115)
                            intro l hl vs W dn e1 e2 e3 hS hR hp
                            have f5 : dn 5 = dn 5 := rfl
                            have f11 : dn 11 = false := e3 11 (by kernel_rfl)
                            replace hS : (fun W => TN w W [(ob, opO p)] b mb N (if (dn 5) then (nn + 1) else nn) (if (dn 5) then f2 else f) L d L (if (dn 11) then cs2 else cs)) W := hS
                            rw [f11] at hS
                            have g5 : (dn 5 || ((8 : Nat) == 5)) = dn 5 := Bool.or_false _
                            have g11 : (dn 11 || ((8 : Nat) == 11)) = false := by rw [f11]; rfl
                            refine OpGoal.imp (S1 := fun W => TN w W [(ob, opO p)] b mb N (if (dn 5) then (nn + 1) else nn) (if (dn 5) then f2 else f) L d L (if false then cs2 else cs)) (fun W' h => ?_) ?_
                            · show (fun W => TN w W [(ob, opO p)] b mb N (if (dn 5 || ((8 : Nat) == 5)) then (nn + 1) else nn) (if (dn 5 || ((8 : Nat) == 5)) then f2 else f) L d L (if (dn 11 || ((8 : Nat) == 11)) then cs2 else cs)) W'
                              rw [g5, g11]
                              exact h
                            clear g5 g11 e1 e2 e3
                            obtain rfl : l = [(7, 115)] := hl.symm.trans (by kernel_rfl)
                            have p7 : vs 7 = _ := hp 7 (by decide) (by decide)
                            clear hp hl
                            refine opgoal (_) (some 116) rfl rfl fun K hK => ?_
                            obtain ⟨f0, f1, f2, f3⟩ := HCE.out _ _ _ _ _ _ hS
                            refine Runs.mk ?_
                            simp only [putAll]
                            go_simp
                            refine hK _ _ ?_ hS ⟨fun h => absurd h (by decide), fun h => absurd h (by decide), fun h5 h11 => ((fun w => trivial) W)⟩ _ rfl rfl
                            first | rfl | go_simp | simp
                          · -- 9: Op.fieldAddr 39 (Operand.tmp 9) 2
                            intro l hl vs W dn e1 e2 e3 hS hR hp
                            have f5 : dn 5 = dn 5 := rfl
                            have f11 : dn 11 = false := e3 11 (by kernel_rfl)
                            replace hS : (fun W => TN w W [(ob, opO p)] b mb N (if (dn 5) then (nn + 1) else nn) (if (dn 5) then f2 else f) L d L (if (dn 11) then cs2 else cs)) W := hS
                            rw [f11] at hS
                            have g5 : (dn 5 || ((9 : Nat) == 5)) = dn 5 := Bool.or_false _
                            have g11 : (dn 11 || ((9 : Nat) == 11)) = false := by rw [f11]; rfl
                            refine OpGoal.imp (S1 := fun W => TN w W [(ob, opO p)] b mb N (if (dn 5) then (nn + 1) else nn) (if (dn 5) then f2 else f) L d L (if false then cs2 else cs)) (fun W' h => ?_) ?_
                            · show (fun W => TN w W [(ob, opO p)] b mb N (if (dn 5 || ((9 : Nat) == 5)) then (nn + 1) else nn) (if (dn 5 || ((9 : Nat) == 5)) then f2 else f) L d L (if (dn 11 || ((9 : Nat) == 11)) then cs2 else cs)) W'
                              rw [g5, g11]
                              exact h
                            clear g5 g11 e1 e2 e3
                            obtain rfl : l = [] := hl.symm.trans (by kernel_rfl)
                            clear hp hl
                            refine opgoal (_) (some 117) rfl rfl fun K hK => ?_
                            refine Runs.mk ?_
                            simp only [putAll]
                            go_simp
                            refine hK _ _ ?_ hS ⟨fun h => absurd h (by decide), fun h => absurd h (by decide), fun h5 h11 => ((fun w => trivial) W)⟩ _ rfl rfl
                            first | rfl | go_simp | simp
                          · -- 10: Op.load 3 (Operand.tmp 117)
                            intro l hl vs W dn e1 e2 e3 hS hR hp
                            have f5 : dn 5 = dn 5 := rfl
                            have f11 : dn 11 = false := e3 11 (by kernel_rfl)
                            replace hS : (fun W => TN w W [(ob, opO p)] b mb N (if (dn 5) then (nn + 1) else nn) (if (dn 5) then f2 else f) L d L (if (dn 11) then cs2 else cs)) W := hS
                            rw [f11] at hS
                            have g5 : (dn 5 || ((10 : Nat) == 5)) = dn 5 := Bool.or_false _
                            have g11 : (dn 11 || ((10 : Nat) == 11)) = false := by rw [f11]; rfl
                            refine OpGoal.imp (S1 := fun W => TN w W [(ob, opO p)] b mb N (if (dn 5) then (nn + 1) else nn) (if (dn 5) then f2 else f) L d L (if false then cs2 else cs)) (fun W' h => ?_) ?_
                            · show (fun W => TN w W [(ob, opO p)] b mb N (if (dn 5 || ((10 : Nat) == 5)) then (nn + 1) else nn) (if (dn 5 || ((10 : Nat) == 5)) then f2 else f) L d L (if (dn 11 || ((10 : Nat) == 11)) then cs2 else cs)) W'
                              rw [g5, g11]
                              exact h
                            clear g5 g11 e1 e2 e3
                            obtain rfl : l = [(9, 117)] := hl.symm.trans (by kernel_rfl)
                            have p9 : vs 9 = _ := hp 9 (by decide) (by decide)
                            clear hp hl
                            refine opgoal (_) (some 118) rfl rfl fun K hK => ?_
                            obtain ⟨f0, f1, f2, f3⟩ := HCE.out _ _ _ _ _ _ hS
                            refine Runs.mk ?_
                            simp only [putAll]
                            go_simp
                            refine hK _ _ ?_ hS ⟨fun h => absurd h (by decide), fun h => absurd h (by decide), fun h5 h11 => ((fun w => trivial) W)⟩ _ rfl rfl
                            first | rfl | go_simp | simp
                          · -- 11: Op.call { callee := Callee.value (Operand.func 30), args := #[Operand.tmp 114, Operand.tmp 116, Operand.tmp 118, Operand.const (Value.bool false)], ar
                            intro l hl vs W dn e1 e2 e3 hS hR hp
                            have f5 : dn 5 = true := e2 5 (by kernel_rfl)
                            have f11 : dn 11 = false := e1
                            replace hS : (fun W => TN w W [(ob, opO p)] b mb N (if (dn 5) then (nn + 1) else nn) (if (dn 5) then f2 else f) L d L (if (dn 11) then cs2 else cs)) W := hS
                            rw [f5, f11] at hS
                            have g5 : (dn 5 || ((11 : Nat) == 5)) = true := by rw [f5]; rfl
                            have g11 : (dn 11 || ((11 : Nat) == 11)) = true := by rw [f11]; rfl
                            refine OpGoal.imp (S1 := fun W => TN w W [(ob, opO p)] b mb N (if true then (nn + 1) else nn) (if true then f2 else f) L d L (if true then cs2 else cs)) (fun W' h => ?_) ?_
                            · show (fun W => TN w W [(ob, opO p)] b mb N (if (dn 5 || ((11 : Nat) == 5)) then (nn + 1) else nn) (if (dn 5 || ((11 : Nat) == 5)) then f2 else f) L d L (if (dn 11 || ((11 : Nat) == 11)) then cs2 else cs)) W'
                              rw [g5, g11]
                              exact h
                            clear g5 g11 e1 e2 e3
                            obtain rfl : l = [(0, 108), (1, 109), (2, 110), (3, 111), (4, 112), (5, 113), (6, 114), (7, 115), (8, 116), (9, 117), (10, 118)] := hl.symm.trans (by kernel_rfl)
                            have p6 : vs 6 = _ := hp 6 (by decide) (by decide)
                            have p8 : vs 8 = _ := hp 8 (by decide) (by decide)
                            have p10 : vs 10 = _ := hp 10 (by decide) (by decide)
                            clear hp hl
                            refine opgoal (_) (some 119) rfl rfl fun K hK => ?_
                            refine Runs.mk ?_
                            simp only [putAll]
                            go_simp
                            refine (HC2.out W hS).mono ?_
                            rintro e w' ⟨rfl, hn⟩
                            go_simp
                            exact hK _ _ rfl hn ⟨(fun h => absurd h (by decide)), (fun _ => trivial), fun h1 h2 => absurd rfl h2⟩ _ rfl rfl
                          · -- 12: Op.assign (Operand.tmp 113)
                            intro l hl vs W dn e1 e2 e3 hS hR hp
                            have f5 : dn 5 = true := e2 5 (by kernel_rfl)
                            have f11 : dn 11 = true := e2 11 (by kernel_rfl)
                            replace hS : (fun W => TN w W [(ob, opO p)] b mb N (if (dn 5) then (nn + 1) else nn) (if (dn 5) then f2 else f) L d L (if (dn 11) then cs2 else cs)) W := hS
                            rw [f5, f11] at hS
                            have g5 : (dn 5 || ((12 : Nat) == 5)) = true := by rw [f5]; rfl
                            have g11 : (dn 11 || ((12 : Nat) == 11)) = true := by rw [f11]; rfl
                            refine OpGoal.imp (S1 := fun W => TN w W [(ob, opO p)] b mb N (if true then (nn + 1) else nn) (if true then f2 else f) L d L (if true then cs2 else cs)) (fun W' h => ?_) ?_
                            · show (fun W => TN w W [(ob, opO p)] b mb N (if (dn 5 || ((12 : Nat) == 5)) then (nn + 1) else nn) (if (dn 5 || ((12 : Nat) == 5)) then f2 else f) L d L (if (dn 11 || ((12 : Nat) == 11)) then cs2 else cs)) W'
                              rw [g5, g11]
                              exact h
                            clear g5 g11 e1 e2 e3
                            obtain rfl : l = [(0, 108), (1, 109), (2, 110), (3, 111), (4, 112), (5, 113), (6, 114), (7, 115), (8, 116), (9, 117), (10, 118), (11, 119)] := hl.symm.trans (by kernel_rfl)
                            have p5 : vs 5 = _ := hp 5 (by decide) (by decide)
                            clear hp hl
                            refine opgoal ({ dst := some 10, op := Op.assign (Operand.tmp 113), type := 25, pos := "law.go:81", after := #[{ on := 5, ground := Ground.data }, { on := 11, ground := Ground.chain }, { on := 0, ground := Ground.phase }, { on := 1, ground := Ground.phase }, { on := 2, ground := Ground.phase }, { on := 3, ground := Ground.phase }, { on := 4, ground := Ground.phase }, { on := 5, ground := Ground.phase }, { on := 6, ground := Ground.textOnly Departure.lateStores }, { on := 7, ground := Ground.textOnly Departure.lateStores }, { on := 8, ground := Ground.textOnly Departure.lateStores }, { on := 9, ground := Ground.textOnly Departure.lateStores }, { on := 10, ground := Ground.textOnly Departure.lateStores }, { on := 11, ground := Ground.textOnly Departure.lateStoresUnsure }], guard := none }) (some 10) rfl rfl fun K hK => ?_
                            refine runs_assign (wanted_none rfl) (.tmp 113) rfl (.int .i64 r) (eval_putAll (j := 5) (by simp) (by decide) (by intro k hk; simpa using hk) p5) ?_
                            exact hK _ _ rfl hS ⟨(fun h => absurd h (by decide)), (fun h => absurd h (by decide)), fun h1 h2 => trivial⟩ _ put_dfs (put_slot (by simp))
                          · -- 13: Op.assign (Operand.tmp 119)
                            intro l hl vs W dn e1 e2 e3 hS hR hp
                            have f5 : dn 5 = true := e2 5 (by kernel_rfl)
                            have f11 : dn 11 = true := e2 11 (by kernel_rfl)
                            replace hS : (fun W => TN w W [(ob, opO p)] b mb N (if (dn 5) then (nn + 1) else nn) (if (dn 5) then f2 else f) L d L (if (dn 11) then cs2 else cs)) W := hS
                            rw [f5, f11] at hS
                            have g5 : (dn 5 || ((13 : Nat) == 5)) = true := by rw [f5]; rfl
                            have g11 : (dn 11 || ((13 : Nat) == 11)) = true := by rw [f11]; rfl
                            refine OpGoal.imp (S1 := fun W => TN w W [(ob, opO p)] b mb N (if true then (nn + 1) else nn) (if true then f2 else f) L d L (if true then cs2 else cs)) (fun W' h => ?_) ?_
                            · show (fun W => TN w W [(ob, opO p)] b mb N (if (dn 5 || ((13 : Nat) == 5)) then (nn + 1) else nn) (if (dn 5 || ((13 : Nat) == 5)) then f2 else f) L d L (if (dn 11 || ((13 : Nat) == 11)) then cs2 else cs)) W'
                              rw [g5, g11]
                              exact h
                            clear g5 g11 e1 e2 e3
                            obtain rfl : l = [(0, 108), (1, 109), (2, 110), (3, 111), (4, 112), (5, 113), (6, 114), (7, 115), (8, 116), (9, 117), (10, 118), (11, 119), (12, 10)] := hl.symm.trans (by kernel_rfl)
                            have p11 : vs 11 = _ := hp 11 (by decide) (by decide)
                            clear hp hl
                            refine opgoal ({ dst := some 11, op := Op.assign (Operand.tmp 119), type := 3, pos := "law.go:81", after := #[{ on := 11, ground := Ground.data }, { on := 12, ground := Ground.chain }, { on := 0, ground := Ground.phase }, { on := 1, ground := Ground.phase }, { on := 2, ground := Ground.phase }, { on := 3, ground := Ground.phase }, { on := 4, ground := Ground.phase }, { on := 5, ground := Ground.phase }, { on := 6, ground := Ground.phase }, { on := 7, ground := Ground.phase }, { on := 8, ground := Ground.phase }, { on := 9, ground := Ground.phase }, { on := 10, ground := Ground.phase }, { on := 11, ground := Ground.phase }, { on := 12, ground := Ground.phase }], guard := none }) (some 11) rfl rfl fun K hK => ?_
                            refine runs_assign (wanted_none rfl) (.tmp 119) rfl (.int .i64 r) (eval_putAll (j := 11) (by simp) (by decide) (by intro k hk; simpa using hk) p11) ?_
                            exact hK _ _ rfl hS ⟨(fun h => absurd h (by decide)), (fun h => absurd h (by decide)), fun h1 h2 => trivial⟩ _ put_dfs (put_slot (by simp))
                        · intro l hl vs W dn hd hS hR hp
                          replace hS : (fun W => TN w W [(ob, opO p)] b mb N (if (dn 5) then (nn + 1) else nn) (if (dn 5) then f2 else f) L d L (if (dn 11) then cs2 else cs)) W := hS
                          rw [hd 5 (by decide), hd 11 (by decide)] at hS
                          obtain rfl : l = [(0, 108), (1, 109), (2, 110), (3, 111), (4, 112), (5, 113), (6, 114), (7, 115), (8, 116), (9, 117), (10, 118), (11, 119), (12, 10), (13, 11)] := hl.symm.trans (by kernel_rfl)
                          have p0 : vs 0 = _ := hp 0 (by decide) (by decide)
                          have p1 : vs 1 = _ := hp 1 (by decide) (by decide)
                          have p2 : vs 2 = _ := hp 2 (by decide) (by decide)
                          have p3 : vs 3 = _ := hp 3 (by decide) (by decide)
                          have p4 : vs 4 = _ := hp 4 (by decide) (by decide)
                          have p5 : vs 5 = _ := hp 5 (by decide) (by decide)
                          have p6 : vs 6 = _ := hp 6 (by decide) (by decide)
                          have p7 : vs 7 = _ := hp 7 (by decide) (by decide)
                          have p8 : vs 8 = _ := hp 8 (by decide) (by decide)
                          have p9 : vs 9 = _ := hp 9 (by decide) (by decide)
                          have p10 : vs 10 = _ := hp 10 (by decide) (by decide)
                          have p11 : vs 11 = _ := hp 11 (by decide) (by decide)
                          have p12 : vs 12 = _ := hp 12 (by decide) (by decide)
                          have p13 : vs 13 = _ := hp 13 (by decide) (by decide)
                          clear hp hl
                          simp only [putAll_mk, setAll, List.setIfInBounds_toArray, List.set_cons_succ, List.set_cons_zero, p0, p1, p2, p3, p4, p5, p6, p7, p8, p9, p10, p11, p12, p13]
                          have HS := Lib.hid hS
                          clear hS hR hS0
                          go_wp2_with fail
                          go_meet
                          exact ⟨_, _, rfl, rfl, HF2.out _ HS.out⟩
                    · have e4 : (ok == 4) = false := by simpa using k4
                      by_cases k5 : ok = 5
                      · have e5 : (ok == 5) = true := by simpa using k5
                        have HC1 := Lib.hid (tn_healall HNP.out)
                        have HF2 := HFIN 0 (fun _ _ => false) L [] (by omega) (by simp) Coh.none HQ.out.2.2.2 hL256
                        clear k0 k1 k2 k3 k4 k5 HFIN
                        go_wp2_with fail
                        refine HC1.out.mono ?_
                        rintro e w6 ⟨rfl, hn6⟩
                        obtain ⟨hn7, hfz, vC, hcell⟩ := tn_nocuts hn6
                        have HC8 := Lib.hid (HF2.out _ hn7)
                        clear hn6 hn7 c0 c1 c2 c3
                        go_wp2_with fail
                        go_meet
                        exact ⟨_, _, rfl, rfl, HC8.out⟩
                      · have e5 : (ok == 5) = false := by simpa using k5
                        by_cases k6 : ok = 6
                        · have e6 : (ok == 6) = true := by simpa using k6
                          as_aux_lemma =>
                            obtain ⟨xv, HXV⟩ : ∃ xv, Hid (bits .xor .i64 oa oB = xv) := ⟨_, Lib.hid rfl⟩
                            obtain ⟨yb, HYB, hyb⟩ : ∃ yb : Nat, Hid (IntKind.u8.wrap xv = (yb : Int)) ∧ yb < 256 := ⟨(IntKind.u8.wrap xv).toNat, Lib.hid (by rw [IntKind.wrap_u8]; omega), by rw [IntKind.wrap_u8]; omega⟩
                            have hlen2 := spoilL_len L oa oB yb
                            have hgood2 := spoilL_good L oa oB yb HQ.out.2.2.2
                            have h1 : ∀ W, TN w W [(ob, opO p)] b mb N nn f L d L cs → _ := fun W h => tn_spoil h hL256 oa oB yb hyb
                            have h2 : ∀ W, TN w W [(ob, opO p)] b mb N nn f (spoilL L oa oB yb).2 d L cs → _ := fun W h => tn_dspoil h hL256 HQ.out.2.2.2 oa oB yb hyb
                            obtain ⟨⟨r, LX⟩, hq⟩ : ∃ q, spoilL L oa oB yb = q := ⟨_, rfl⟩
                            rw [hq] at hlen2 hgood2 h1 h2
                            dsimp only at hlen2 hgood2 h1 h2
                            have HC1 := Lib.hid h1
                            have HC2 := Lib.hid h2
                            have HF2 := HFIN nn f LX cs (by omega) (by omega) HQ.out.2.2.1 hgood2 (by omega)
                            have hS0 : TN w W.drew [(ob, opO p)] b mb N nn f L d L cs := HNP.out.below (below_drewN 1 W)
                            clear k0 k1 k2 k3 k4 k5 k6 hlen2 hgood2 HFIN h1 h2 hq hyb
                            go_wp2_with fail
                            clear c0 c1 c2 c3
                            refine wp_region_done (fun dnf => fun W => TN w W [(ob, opO p)] b mb N nn f (if (dnf 11) then LX else L) d (if (dnf 23) then LX else L) cs) (fun _ _ => True) (fun k u v => (k = 11 → (fun _ _ => True) u v) ∧ (k = 23 → (fun _ _ => True) u v) ∧ (¬ k = 11 → ¬ k = 23 → (fun _ _ => True) u v)) (fun a i => match i with
                                | 0 => (fun v _ => v = .pointer (some ⟨b, 0, none⟩))
                                | 1 => (fun v _ => v = .pointer (some ⟨ob, 1, none⟩))
                                | 2 => (fun v _ => v = .int .i64 oa)
                                | 3 => (fun v _ => v = .pointer (some ⟨ob, 2, none⟩))
                                | 4 => (fun v _ => v = .int .i64 oB)
                                | 5 => (fun v _ => v = .pointer (some ⟨ob, 1, none⟩))
                                | 6 => (fun v _ => v = .int .i64 oa)
                                | 7 => (fun v _ => v = .pointer (some ⟨ob, 2, none⟩))
                                | 8 => (fun v _ => v = .int .i64 oB)
                                | 9 => (fun v _ => v = .int .i64 xv)
                                | 10 => (fun v _ => v = .int .u8 (yb : Int))
                                | 11 => (fun v _ => v = .int .i64 r)
                                | 12 => (fun v _ => v = .pointer (some ⟨d, 0, none⟩))
                                | 13 => (fun v _ => v = .pointer (some ⟨ob, 1, none⟩))
                                | 14 => (fun v _ => v = .int .i64 oa)
                                | 15 => (fun v _ => v = .pointer (some ⟨ob, 2, none⟩))
                                | 16 => (fun v _ => v = .int .i64 oB)
                                | 17 => (fun v _ => v = .pointer (some ⟨ob, 1, none⟩))
                                | 18 => (fun v _ => v = .int .i64 oa)
                                | 19 => (fun v _ => v = .pointer (some ⟨ob, 2, none⟩))
                                | 20 => (fun v _ => v = .int .i64 oB)
                                | 21 => (fun v _ => v = .int .i64 xv)
                                | 22 => (fun v _ => v = .int .u8 (yb : Int))
                                | 23 => (fun v _ => v = .int .i64 r)
                                | 24 => (fun v _ => v = .int .i64 r)
                                | 25 => (fun v _ => v = .int .i64 r)
                                | _ => (fun _ _ => True)) #[0, 0, 2, 0, 8, 0, 32, 0, 128, 480, 992, 2047, 0, 0, 8192, 0, 32768, 0, 131072, 0, 524288, 1966080, 4063232, 8388607, 16777215, 33554431] #[0, 0, 2, 0, 8, 0, 32, 0, 128, 320, 512, 1045, 0, 0, 8192, 0, 32768, 0, 131072, 0, 524288, 1310720, 2097152, 4280320, 2048, 8388608] 67108863 (by kernel_rfl) 26 rfl (fun m hm => by subst hm; kernel_rfl) (by kernel_rfl) (fun w => trivial) (fun u v w h1 h2 => trivial) ?_ ?_ (hS0) ?_ ?_
                            · intro k u v hk hr
                              by_cases hs11 : k = 11
                              · have h := hr.1 hs11; exact trivial
                              by_cases hs23 : k = 23
                              · have h := hr.2.1 hs23; exact trivial
                              have h := hr.2.2 hs11 hs23; exact trivial
                            · intro i hi
                              rcases (by omega : i = 0 ∨ i = 1 ∨ i = 2 ∨ i = 3 ∨ i = 4 ∨ i = 5 ∨ i = 6 ∨ i = 7 ∨ i = 8 ∨ i = 9 ∨ i = 10 ∨ i = 11 ∨ i = 12 ∨ i = 13 ∨ i = 14 ∨ i = 15 ∨ i = 16 ∨ i = 17 ∨ i = 18 ∨ i = 19 ∨ i = 20 ∨ i = 21 ∨ i = 22 ∨ i = 23 ∨ i = 24 ∨ i = 25) with rfl | rfl | rfl | rfl | rfl | rfl | rfl | rfl | rfl | rfl | rfl | rfl | rfl | rfl | rfl | rfl | rfl | rfl | rfl | rfl | rfl | rfl | rfl | rfl | rfl | rfl
                              · intro k hk y hy hyt v w w' h hr
                                exact h
                              · intro k hk y hy hyt v w w' h hr
                                exact h
                              · intro k hk y hy hyt v w w' h hr
                                exact h
                              · intro k hk y hy hyt v w w' h hr
                                exact h
                              · intro k hk y hy hyt v w w' h hr
                                exact h
                              · intro k hk y hy hyt v w w' h hr
                                exact h
                              · intro k hk y hy hyt v w w' h hr
                                exact h
                              · intro k hk y hy hyt v w w' h hr
                                exact h
                              · intro k hk y hy hyt v w w' h hr
                                exact h
                              · intro k hk y hy hyt v w w' h hr
                                exact h
                              · intro k hk y hy hyt v w w' h hr
                                exact h
                              · intro k hk y hy hyt v w w' h hr
                                exact h
                              · intro k hk y hy hyt v w w' h hr
                                exact h
                              · intro k hk y hy hyt v w w' h hr
                                exact h
                              · intro k hk y hy hyt v w w' h hr
                                exact h
                              · intro k hk y hy hyt v w w' h hr
                                exact h
                              · intro k hk y hy hyt v w w' h hr
                                exact h
                              · intro k hk y hy hyt v w w' h hr
                                exact h
                              · intro k hk y hy hyt v w w' h hr
                                exact h
                              · intro k hk y hy hyt v w w' h hr
                                exact h
                              · intro k hk y hy hyt v w w' h hr
                                exact h
                              · intro k hk y hy hyt v w w' h hr
                                exact h
                              · intro k hk y hy hyt v w w' h hr
                                exact h
                              · intro k hk y hy hyt v w w' h hr
                                exact h
                              · intro k hk y hy hyt v w w' h hr
                                exact h
                              · intro k hk y hy hyt v w w' h hr
                                exact h
                            · intro i hi
                              rcases (by omega : i = 0 ∨ i = 1 ∨ i = 2 ∨ i = 3 ∨ i = 4 ∨ i = 5 ∨ i = 6 ∨ i = 7 ∨ i = 8 ∨ i = 9 ∨ i = 10 ∨ i = 11 ∨ i = 12 ∨ i = 13 ∨ i = 14 ∨ i = 15 ∨ i = 16 ∨ i = 17 ∨ i = 18 ∨ i = 19 ∨ i = 20 ∨ i = 21 ∨ i = 22 ∨ i = 23 ∨ i = 24 ∨ i = 25) with rfl | rfl | rfl | rfl | rfl | rfl | rfl | rfl | rfl | rfl | rfl | rfl | rfl | rfl | rfl | rfl | rfl | rfl | rfl | rfl | rfl | rfl | rfl | rfl | rfl | rfl
                              · -- 0: Op.move (Operand.tmp 5)
                                intro l hl vs W dn e1 e2 e3 hS hR hp
                                have f11 : dn 11 = false := e3 11 (by kernel_rfl)
                                have f23 : dn 23 = false := e3 23 (by kernel_rfl)
                                replace hS : (fun W => TN w W [(ob, opO p)] b mb N nn f (if (dn 11) then LX else L) d (if (dn 23) then LX else L) cs) W := hS
                                rw [f11, f23] at hS
                                have g11 : (dn 11 || ((0 : Nat) == 11)) = false := by rw [f11]; rfl
                                have g23 : (dn 23 || ((0 : Nat) == 23)) = false := by rw [f23]; rfl
                                refine OpGoal.imp (S1 := fun W => TN w W [(ob, opO p)] b mb N nn f (if false then LX else L) d (if false then LX else L) cs) (fun W' h => ?_) ?_
                                · show (fun W => TN w W [(ob, opO p)] b mb N nn f (if (dn 11 || ((0 : Nat) == 11)) then LX else L) d (if (dn 23 || ((0 : Nat) == 23)) then LX else L) cs) W'
                                  rw [g11, g23]
                                  exact h
                                clear g11 g23 e1 e2 e3
                                obtain rfl : l = [] := hl.symm.trans (by kernel_rfl)
                                clear hp hl
                                refine opgoal (_) (some 129) rfl rfl fun K hK => ?_
                                refine Runs.mk ?_
                                simp only [putAll]
                                go_simp
                                refine hK _ _ ?_ hS ⟨fun h => absurd h (by decide), fun h => absurd h (by decide), fun h11 h23 => ((fun w => trivial) W)⟩ _ rfl rfl
                                first | rfl | go_simp | simp
                              · -- 1: Op.fieldAddr 39 (Operand.tmp 9) 1
                                intro l hl vs W dn e1 e2 e3 hS hR hp
                                have f11 : dn 11 = false := e3 11 (by kernel_rfl)
                                have f23 : dn 23 = false := e3 23 (by kernel_rfl)
                                replace hS : (fun W => TN w W [(ob, opO p)] b mb N nn f (if (dn 11) then LX else L) d (if (dn 23) then LX else L) cs) W := hS
                                rw [f11, f23] at hS
                                have g11 : (dn 11 || ((1 : Nat) == 11)) = false := by rw [f11]; rfl
                                have g23 : (dn 23 || ((1 : Nat) == 23)) = false := by rw [f23]; rfl
                                refine OpGoal.imp (S1 := fun W => TN w W [(ob, opO p)] b mb N nn f (if false then LX else L) d (if false then LX else L) cs) (fun W' h => ?_) ?_
                                · show (fun W => TN w W [(ob, opO p)] b mb N nn f (if (dn 11 || ((1 : Nat) == 11)) then LX else L) d (if (dn 23 || ((1 : Nat) == 23)) then LX else L) cs) W'
                                  rw [g11, g23]
                                  exact h
                                clear g11 g23 e1 e2 e3
                                obtain rfl : l = [] := hl.symm.trans (by kernel_rfl)
                                clear hp hl
                                refine opgoal (_) (some 130) rfl rfl fun K hK => ?_
                                refine Runs.mk ?_
                                simp only [putAll]
                                go_simp
                                refine hK _ _ ?_ hS ⟨fun h => absurd h (by decide), fun h => absurd h (by decide), fun h11 h23 => ((fun w => trivial) W)⟩ _ rfl rfl
                                first | rfl | go_simp | simp
                              · -- 2: Op.load 3 (Operand.tmp 130)
                                intro l hl vs W dn e1 e2 e3 hS hR hp
                                have f11 : dn 11 = false := e3 11 (by kernel_rfl)
                                have f23 : dn 23 = false := e3 23 (by kernel_rfl)
                                replace hS : (fun W => TN w W [(ob, opO p)] b mb N nn f (if (dn 11) then LX else L) d (if (dn 23) then LX else L) cs) W := hS
                                rw [f11, f23] at hS
                                have g11 : (dn 11 || ((2 : Nat) == 11)) = false := by rw [f11]; rfl
                                have g23 : (dn 23 || ((2 : Nat) == 23)) = false := by rw [f23]; rfl
                                refine OpGoal.imp (S1 := fun W => TN w W [(ob, opO p)] b mb N nn f (if false then LX else L) d (if false then LX else L) cs) (fun W' h => ?_) ?_
                                · show (fun W => TN w W [(ob, opO p)] b mb N nn f (if (dn 11 || ((2 : Nat) == 11)) then LX else L) d (if (dn 23 || ((2 : Nat) == 23)) then LX else L) cs) W'
                                  rw [g11, g23]
                                  exact h
                                clear g11 g23 e1 e2 e3
                                obtain rfl : l = [(1, 130)] := hl.symm.trans (by kernel_rfl)
                                have p1 : vs 1 = _ := hp 1 (by decide) (by decide)
                                clear hp hl
                                refine opgoal (_) (some 131) rfl rfl fun K hK => ?_
                                obtain ⟨f0, f1, f2, f3⟩ := HCE.out _ _ _ _ _ _ hS
                                refine Runs.mk ?_
                                simp only [putAll]
                                go_simp
                                refine hK _ _ ?_ hS ⟨fun h => absurd h (by decide), fun h => absurd h (by decide), fun h11 h23 => ((fun w => trivial) W)⟩ _ rfl rfl
                                first | rfl | go_simp | simp
                              · -- 3: Op.fieldAddr 39 (Operand.tmp 9) 2
                                intro l hl vs W dn e1 e2 e3 hS hR hp
                                have f11 : dn 11 = false := e3 11 (by kernel_rfl)
                                have f23 : dn 23 = false := e3 23 (by kernel_rfl)
                                replace hS : (fun W => TN w W [(ob, opO p)] b mb N nn f (if (dn 11) then LX else L) d (if (dn 23) then LX else L) cs) W := hS
                                rw [f11, f23] at hS
                                have g11 : (dn 11 || ((3 : Nat) == 11)) = false := by rw [f11]; rfl
                                have g23 : (dn 23 || ((3 : Nat) == 23)) = false := by rw [f23]; rfl
                                refine OpGoal.imp (S1 := fun W => TN w W [(ob, opO p)] b mb N nn f (if false then LX else L) d (if false then LX else L) cs) (fun W' h => ?_) ?_
                                · show (fun W => TN w W [(ob, opO p)] b mb N nn f (if (dn 11 || ((3 : Nat) == 11)) then LX else L) d (if (dn 23 || ((3 : Nat) == 23)) then LX else L) cs) W'
                                  rw [g11, g23]
                                  exact h
                                clear g11 g23 e1 e2 e3
                                obtain rfl : l = [] := hl.symm.trans (by kernel_rfl)
                                clear hp hl
                                refine opgoal (_) (some 132) rfl rfl fun K hK => ?_
                                refine Runs.mk ?_
                                simp only [putAll]
                                go_simp
                                refine hK _ _ ?_ hS ⟨fun h => absurd h (by decide), fun h => absurd h (by decide), fun h11 h23 => ((fun w => trivial) W)⟩ _ rfl rfl
                                first | rfl | go_simp | simp
                              · -- 4: Op.load 3 (Operand.tmp 132)
                                intro l hl vs W dn e1 e2 e3 hS hR hp
                                have f11 : dn 11 = false := e3 11 (by kernel_rfl)
                                have f23 : dn 23 = false := e3 23 (by kernel_rfl)
                                replace hS : (fun W => TN w W [(ob, opO p)] b mb N nn f (if (dn 11) then LX else L) d (if (dn 23) then LX else L) cs) W := hS
                                rw [f11, f23] at hS
                                have g11 : (dn 11 || ((4 : Nat) == 11)) = false := by rw [f11]; rfl
                                have g23 : (dn 23 || ((4 : Nat) == 23)) = false := by rw [f23]; rfl
                                refine OpGoal.imp (S1 := fun W => TN w W [(ob, opO p)] b mb N nn f (if false then LX else L) d (if false then LX else L) cs) (fun W' h => ?_) ?_
                                · show (fun W => TN w W [(ob, opO p)] b mb N nn f (if (dn 11 || ((4 : Nat) == 11)) then LX else L) d (if (dn 23 || ((4 : Nat) == 23)) then LX else L) cs) W'
                                  rw [g11, g23]
                                  exact h
                                clear g11 g23 e1 e2 e3
                                obtain rfl : l = [(3, 132)] := hl.symm.trans (by kernel_rfl)
                                have p3 : vs 3 = _ := hp 3 (by decide) (by decide)
                                clear hp hl
                                refine opgoal (_) (some 133) rfl rfl fun K hK => ?_
                                obtain ⟨f0, f1, f2, f3⟩ := HCE.out _ _ _ _ _ _ hS
                                refine Runs.mk ?_
                                simp only [putAll]
                                go_simp
                                refine hK _ _ ?_ hS ⟨fun h => absurd h (by decide), fun h => absurd h (by decide), fun h11 h23 => ((fun w => trivial) W)⟩ _ rfl rfl
                                first | rfl | go_simp | simp
                              · -- 5: Op.fieldAddr 39 (Operand.tmp 9) 1
                                intro l hl vs W dn e1 e2 e3 hS hR hp
                                have f11 : dn 11 = false := e3 11 (by kernel_rfl)
                                have f23 : dn 23 = false := e3 23 (by kernel_rfl)
                                replace hS : (fun W => TN w W [(ob, opO p)] b mb N nn f (if (dn 11) then LX else L) d (if (dn 23) then LX else L) cs) W := hS
                                rw [f11, f23] at hS
                                have g11 : (dn 11 || ((5 : Nat) == 11)) = false := by rw [f11]; rfl
                                have g23 : (dn 23 || ((5 : Nat) == 23)) = false := by rw [f23]; rfl
                                refine OpGoal.imp (S1 := fun W => TN w W [(ob, opO p)] b mb N nn f (if false then LX else L) d (if false then LX else L) cs) (fun W' h => ?_) ?_
                                · show (fun W => TN w W [(ob, opO p)] b mb N nn f (if (dn 11 || ((5 : Nat) == 11)) then LX else L) d (if (dn 23 || ((5 : Nat) == 23)) then LX else L) cs) W'
                                  rw [g11, g23]
                                  exact h
                                clear g11 g23 e1 e2 e3
                                obtain rfl : l = [] := hl.symm.trans (by kernel_rfl)
                                clear hp hl
                                refine opgoal (_) (some 134) rfl rfl fun K hK => ?_
                                refine Runs.mk ?_
                                simp only [putAll]
                                go_simp
                                refine hK _ _ ?_ hS ⟨fun h => absurd h (by decide), fun h => absurd h (by decide), fun h11 h23 => ((fun w => trivial) W)⟩ _ rfl rfl
                                first | rfl | go_simp | simp
                              · -- 6: Op.load 3 (Operand.tmp 134)
                                intro l hl vs W dn e1 e2 e3 hS hR hp
                                have f11 : dn 11 = false := e3 11 (by kernel_rfl)
                                have f23 : dn 23 = false := e3 23 (by kernel_rfl)
                                replace hS : (fun W => TN w W [(ob, opO p)] b mb N nn f (if (dn 11) then LX else L) d (if (dn 23) then LX else L) cs) W := hS
                                rw [f11, f23] at hS
                                have g11 : (dn 11 || ((6 : Nat) == 11)) = false := by rw [f11]; rfl
                                have g23 : (dn 23 || ((6 : Nat) == 23)) = false := by rw [f23]; rfl
                                refine OpGoal.imp (S1 := fun W => TN w W [(ob, opO p)] b mb N nn f (if false then LX else L) d (if false then LX else L) cs) (fun W' h => ?_) ?_
                                · show (fun W => TN w W [(ob, opO p)] b mb N nn f (if (dn 11 || ((6 : Nat) == 11)) then LX else L) d (if (dn 23 || ((6 : Nat) == 23)) then LX else L) cs) W'
                                  rw [g11, g23]
                                  exact h
                                clear g11 g23 e1 e2 e3
                                obtain rfl : l = [(5, 134)] := hl.symm.trans (by kernel_rfl)
                                have p5 : vs 5 = _ := hp 5 (by decide) (by decide)
                                clear hp hl
                                refine opgoal (_) (some 135) rfl rfl fun K hK => ?_
                                obtain ⟨f0, f1, f2, f3⟩ := HCE.out _ _ _ _ _ _ hS
                                refine Runs.mk ?_
                                simp only [putAll]
                                go_simp
                                refine hK _ _ ?_ hS ⟨fun h => absurd h (by decide), fun h => absurd h (by decide), fun h11 h23 => ((fun w => trivial) W)⟩ _ rfl rfl
                                first | rfl | go_simp | simp
                              · -- 7: Op.fieldAddr 39 (Operand.tmp 9) 2
                                intro l hl vs W dn e1 e2 e3 hS hR hp
                                have f11 : dn 11 = false := e3 11 (by kernel_rfl)
                                have f23 : dn 23 = false := e3 23 (by kernel_rfl)
                                replace hS : (fun W => TN w W [(ob, opO p)] b mb N nn f (if (dn 11) then LX else L) d (if (dn 23) then LX else L) cs) W := hS
                                rw [f11, f23] at hS
                                have g11 : (dn 11 || ((7 : Nat) == 11)) = false := by rw [f11]; rfl
                                have g23 : (dn 23 || ((7 : Nat) == 23)) = false := by rw [f23]; rfl
                                refine OpGoal.imp (S1 := fun W => TN w W [(ob, opO p)] b mb N nn f (if false then LX else L) d (if false then LX else L) cs) (fun W' h => ?_) ?_
                                · show (fun W => TN w W [(ob, opO p)] b mb N nn f (if (dn 11 || ((7 : Nat) == 11)) then LX else L) d (if (dn 23 || ((7 : Nat) == 23)) then LX else L) cs) W'
                                  rw [g11, g23]
                                  exact h
                                clear g11 g23 e1 e2 e3
                                obtain rfl : l = [] := hl.symm.trans (by kernel_rfl)
                                clear hp hl
                                refine opgoal (_) (some 136) rfl rfl fun K hK => ?_
                                refine Runs.mk ?_
                                simp only [putAll]
                                go_simp
                                refine hK _ _ ?_ hS ⟨fun h => absurd h (by decide), fun h => absurd h (by decide), fun h11 h23 => ((fun w => trivial) W)⟩ _ rfl rfl
                                first | rfl | go_simp | simp
                              · -- 8: Op.load 3 (Operand.tmp 136)
                                intro l hl vs W dn e1 e2 e3 hS hR hp
                                have f11 : dn 11 = false := e3 11 (by kernel_rfl)
                                have f23 : dn 23 = false := e3 23 (by kernel_rfl)
                                replace hS : (fun W => TN w W [(ob, opO p)] b mb N nn f (if (dn 11) then LX else L) d (if (dn 23) then LX else L) cs) W := hS
                                rw [f11, f23] at hS
                                have g11 : (dn 11 || ((8 : Nat) == 11)) = false := by rw [f11]; rfl
                                have g23 : (dn 23 || ((8 : Nat) == 23)) = false := by rw [f23]; rfl
                                refine OpGoal.imp (S1 := fun W => TN w W [(ob, opO p)] b mb N nn f (if false then LX else L) d (if false then LX else L) cs) (fun W' h => ?_) ?_
                                · show (fun W => TN w W [(ob, opO p)] b mb N nn f (if (dn 11 || ((8 : Nat) == 11)) then LX else L) d (if (dn 23 || ((8 : Nat) == 23)) then LX else L) cs) W'
                                  rw [g11, g23]
                                  exact h
                                clear g11 g23 e1 e2 e3
                                obtain rfl : l = [(7, 136)] := hl.symm.trans (by kernel_rfl)
                                have p7 : vs 7 = _ := hp 7 (by decide) (by decide)
                                clear hp hl
                                refine opgoal (_) (some 137) rfl rfl fun K hK => ?_
                                obtain ⟨f0, f1, f2, f3⟩ := HCE.out _ _ _ _ _ _ hS
                                refine Runs.mk ?_
                                simp only [putAll]
                                go_simp
                                refine hK _ _ ?_ hS ⟨fun h => absurd h (by decide), fun h => absurd h (by decide), fun h11 h23 => ((fun w => trivial) W)⟩ _ rfl rfl
                                first | rfl | go_simp | simp
                              · -- 9: Op.binOp BinOp.xor 3 (Operand.tmp 135) (Operand.tmp 137) 3
                                intro l hl vs W dn e1 e2 e3 hS hR hp
                                have f11 : dn 11 = false := e3 11 (by kernel_rfl)
                                have f23 : dn 23 = false := e3 23 (by kernel_rfl)
                                replace hS : (fun W => TN w W [(ob, opO p)] b mb N nn f (if (dn 11) then LX else L) d (if (dn 23) then LX else L) cs) W := hS
                                rw [f11, f23] at hS
                                have g11 : (dn 11 || ((9 : Nat) == 11)) = false := by rw [f11]; rfl
                                have g23 : (dn 23 || ((9 : Nat) == 23)) = false := by rw [f23]; rfl
                                refine OpGoal.imp (S1 := fun W => TN w W [(ob, opO p)] b mb N nn f (if false then LX else L) d (if false then LX else L) cs) (fun W' h => ?_) ?_
                                · show (fun W => TN w W [(ob, opO p)] b mb N nn f (if (dn 11 || ((9 : Nat) == 11)) then LX else L) d (if (dn 23 || ((9 : Nat) == 23)) then LX else L) cs) W'
                                  rw [g11, g23]
                                  exact h
                                clear g11 g23 e1 e2 e3
                                obtain rfl : l = [(5, 134), (6, 135), (7, 136), (8, 137)] := hl.symm.trans (by kernel_rfl)
                                have p6 : vs 6 = _ := hp 6 (by decide) (by decide)
                                have p8 : vs 8 = _ := hp 8 (by decide) (by decide)
                                clear hp hl
                                refine opgoal ({ dst := some 138, op := Op.binOp BinOp.xor 3 (Operand.tmp 135) (Operand.tmp 137) 3, type := 3, pos := "law.go:86", after := #[{ on := 6, ground := Ground.data }, { on := 8, ground := Ground.data }], guard := none }) (some 138) rfl rfl fun K hK => ?_
                                refine runs_xor (wanted_none rfl) (.tmp 135) (.tmp 137) rfl oa oB xv (eval_putAll (j := 6) (by simp) (by decide) (by intro k hk; simpa using hk) p6) (eval_putAll (j := 8) (by simp) (by decide) (by intro k hk; simpa using hk) p8) HXV.out ?_
                                exact hK _ _ rfl hS ⟨(fun h => absurd h (by decide)), (fun h => absurd h (by decide)), fun h1 h2 => trivial⟩ _ put_dfs (put_slot (by simp))
                              · -- 10: Op.convert 3 5 (Operand.tmp 138)
                                intro l hl vs W dn e1 e2 e3 hS hR hp
                                have f11 : dn 11 = false := e3 11 (by kernel_rfl)
                                have f23 : dn 23 = false := e3 23 (by kernel_rfl)
                                replace hS : (fun W => TN w W [(ob, opO p)] b mb N nn f (if (dn 11) then LX else L) d (if (dn 23) then LX else L) cs) W := hS
                                rw [f11, f23] at hS
                                have g11 : (dn 11 || ((10 : Nat) == 11)) = false := by rw [f11]; rfl
                                have g23 : (dn 23 || ((10 : Nat) == 23)) = false := by rw [f23]; rfl
                                refine OpGoal.imp (S1 := fun W => TN w W [(ob, opO p)] b mb N nn f (if false then LX else L) d (if false then LX else L) cs) (fun W' h => ?_) ?_
                                · show (fun W => TN w W [(ob, opO p)] b mb N nn f (if (dn 11 || ((10 : Nat) == 11)) then LX else L) d (if (dn 23 || ((10 : Nat) == 23)) then LX else L) cs) W'
                                  rw [g11, g23]
                                  exact h
                                clear g11 g23 e1 e2 e3
                                obtain rfl : l = [(5, 134), (6, 135), (7, 136), (8, 137), (9, 138)] := hl.symm.trans (by kernel_rfl)
                                have p9 : vs 9 = _ := hp 9 (by decide) (by decide)
                                clear hp hl
                                refine opgoal ({ dst := some 139, op := Op.convert 3 5 (Operand.tmp 138), type := 5, pos := "law.go:86", after := #[{ on := 9, ground := Ground.data }], guard := none }) (some 139) rfl rfl fun K hK => ?_
                                refine runs_byte (wanted_none rfl) (.tmp 138) rfl xv yb (eval_putAll (j := 9) (by simp) (by decide) (by intro k hk; simpa using hk) p9) HYB.out ?_
                                exact hK _ _ rfl hS ⟨(fun h => absurd h (by decide)), (fun h => absurd h (by decide)), fun h1 h2 => trivial⟩ _ put_dfs (put_slot (by simp))
                              · -- 11: Op.call { callee := Callee.value (Operand.func 32), args := #[Operand.tmp 129, Operand.tmp 131, Operand.tmp 133, Operand.tmp 139], argTypes := #[24, 3
                                intro l hl vs W dn e1 e2 e3 hS hR hp
                                have f11 : dn 11 = false := e1
                                have f23 : dn 23 = false := e3 23 (by kernel_rfl)
                                replace hS : (fun W => TN w W [(ob, opO p)] b mb N nn f (if (dn 11) then LX else L) d (if (dn 23) then LX else L) cs) W := hS
                                rw [f11, f23] at hS
                                have g11 : (dn 11 || ((11 : Nat) == 11)) = true := by rw [f11]; rfl
                                have g23 : (dn 23 || ((11 : Nat) == 23)) = false := by rw [f23]; rfl
                                refine OpGoal.imp (S1 := fun W => TN w W [(ob, opO p)] b mb N nn f (if true then LX else L) d (if false then LX else L) cs) (fun W' h => ?_) ?_
                                · show (fun W => TN w W [(ob, opO p)] b mb N nn f (if (dn 11 || ((11 : Nat) == 11)) then LX else L) d (if (dn 23 || ((11 : Nat) == 23)) then LX else L) cs) W'
                                  rw [g11, g23]
                                  exact h
                                clear g11 g23 e1 e2 e3
                                obtain rfl : l = [(0, 129), (1, 130), (2, 131), (3, 132), (4, 133), (5, 134), (6, 135), (7, 136), (8, 137), (9, 138), (10, 139)] := hl.symm.trans (by kernel_rfl)
                                have p0 : vs 0 = _ := hp 0 (by decide) (by decide)
                                have p2 : vs 2 = _ := hp 2 (by decide) (by decide)
                                have p4 : vs 4 = _ := hp 4 (by decide) (by decide)
                                have p10 : vs 10 = _ := hp 10 (by decide) (by decide)
                                clear hp hl
                                refine opgoal (_) (some 140) rfl rfl fun K hK => ?_
                                refine Runs.mk ?_
                                simp only [putAll]
                                go_simp
                                refine (HC1.out W hS).mono ?_
                                rintro e w' ⟨rfl, hn⟩
                                go_simp
                                exact hK _ _ rfl hn ⟨(fun _ => trivial), (fun h => absurd h (by decide)), fun h1 h2 => absurd rfl h1⟩ _ rfl rfl
                              · -- 12: Op.move (Operand.tmp 7)
                                intro l hl vs W dn e1 e2 e3 hS hR hp
                                have f11 : dn 11 = dn 11 := rfl
                                have f23 : dn 23 = false := e3 23 (by kernel_rfl)
                                replace hS : (fun W => TN w W [(ob, opO p)] b mb N nn f (if (dn 11) then LX else L) d (if (dn 23) then LX else L) cs) W := hS
                                rw [f23] at hS
                                have g11 : (dn 11 || ((12 : Nat) == 11)) = dn 11 := Bool.or_false _
                                have g23 : (dn 23 || ((12 : Nat) == 23)) = false := by rw [f23]; rfl
                                refine OpGoal.imp (S1 := fun W => TN w W [(ob, opO p)] b mb N nn f (if (dn 11) then LX else L) d (if false then LX else L) cs) (fun W' h => ?_) ?_
                                · show (fun W => TN w W [(ob, opO p)] b mb N nn f (if (dn 11 || ((12 : Nat) == 11)) then LX else L) d (if (dn 23 || ((12 : Nat) == 23)) then LX else L) cs) W'
                                  rw [g11, g23]
                                  exact h
                                clear g11 g23 e1 e2 e3
                                obtain rfl : l = [] := hl.symm.trans (by kernel_rfl)
                                clear hp hl
                                refine opgoal (_) (some 141) rfl rfl fun K hK => ?_
                                refine Runs.mk ?_
                                simp only [putAll]
                                go_simp
                                refine hK _ _ ?_ hS ⟨fun h => absurd h (by decide), fun h => absurd h (by decide), fun h11 h23 => ((fun w => trivial) W)⟩ _ rfl rfl
                                first | rfl | go_simp | simp
                              · -- 13: Op.fieldAddr 39 (Operand.tmp 9) 1
                                intro l hl vs W dn e1 e2 e3 hS hR hp
                                have f11 : dn 11 = dn 11 := rfl
                                have f23 : dn 23 = false := e3 23 (by kernel_rfl)
                                replace hS : (fun W => TN w W [(ob, opO p)] b mb N nn f (if (dn 11) then LX else L) d (if (dn 23) then LX else L) cs) W := hS
                                rw [f23] at hS
                                have g11 : (dn 11 || ((13 : Nat) == 11)) = dn 11 := Bool.or_false _
                                have g23 : (dn 23 || ((13 : Nat) == 23)) = false := by rw [f23]; rfl
                                refine OpGoal.imp (S1 := fun W => TN w W [(ob, opO p)] b mb N nn f (if (dn 11) then LX else L) d (if false then LX else L) cs) (fun W' h => ?_) ?_
                                · show (fun W => TN w W [(ob, opO p)] b mb N nn f (if (dn 11 || ((13 : Nat) == 11)) then LX else L) d (if (dn 23 || ((13 : Nat) == 23)) then LX else L) cs) W'
                                  rw [g11, g23]
                                  exact h
                                clear g11 g23 e1 e2 e3
                                obtain rfl : l = [] := hl.symm.trans (by kernel_rfl)
                                clear hp hl
                                refine opgoal (_) (some 142) rfl rfl fun K hK => ?_
                                refine Runs.mk ?_
                                simp only [putAll]
                                go_simp
                                refine hK _ _ ?_ hS ⟨fun h => absurd h (by decide), fun h => absurd h (by decide), fun h11 h23 => ((fun w => trivial) W)⟩ _ rfl rfl
                                first | rfl | go_simp | simp
                              · -- 14: Op.load 3 (Operand.tmp 142)
                                intro l hl vs W dn e1 e2 e3 hS hR hp
                                have f11 : dn 11 = dn 11 := rfl
                                have f23 : dn 23 = false := e3 23 (by kernel_rfl)
                                replace hS : (fun W => TN w W [(ob, opO p)] b mb N nn f (if (dn 11) then LX else L) d (if (dn 23) then LX else L) cs) W := hS
                                rw [f23] at hS
                                have g11 : (dn 11 || ((14 : Nat) == 11)) = dn 11 := Bool.or_false _
                                have g23 : (dn 23 || ((14 : Nat) == 23)) = false := by rw [f23]; rfl
                                refine OpGoal.imp (S1 := fun W => TN w W [(ob, opO p)] b mb N nn f (if (dn 11) then LX else L) d (if false then LX else L) cs) (fun W' h => ?_) ?_
                                · show (fun W => TN w W [(ob, opO p)] b mb N nn f (if (dn 11 || ((14 : Nat) == 11)) then LX else L) d (if (dn 23 || ((14 : Nat) == 23)) then LX else L) cs) W'
                                  rw [g11, g23]
                                  exact h
                                clear g11 g23 e1 e2 e3
                                obtain rfl : l = [(13, 142)] := hl.symm.trans (by kernel_rfl)
                                have p13 : vs 13 = _ := hp 13 (by decide) (by decide)
                                clear hp hl
                                refine opgoal (_) (some 143) rfl rfl fun K hK => ?_
                                obtain ⟨f0, f1, f2, f3⟩ := HCE.out _ _ _ _ _ _ hS
                                refine Runs.mk ?_
                                simp only [putAll]
                                go_simp
                                refine hK _ _ ?_ hS ⟨fun h => absurd h (by decide), fun h => absurd h (by decide), fun h11 h23 => ((fun w => trivial) W)⟩ _ rfl rfl
                                first | rfl | go_simp | simp
                              · -- 15: Op.fieldAddr 39 (Operand.tmp 9) 2
                                intro l hl vs W dn e1 e2 e3 hS hR hp
                                have f11 : dn 11 = dn 11 := rfl
                                have f23 : dn 23 = false := e3 23 (by kernel_rfl)
                                replace hS : (fun W => TN w W [(ob, opO p)] b mb N nn f (if (dn 11) then LX else L) d (if (dn 23) then LX else L) cs) W := hS
                                rw [f23] at hS
                                have g11 : (dn 11 || ((15 : Nat) == 11)) = dn 11 := Bool.or_false _
                                have g23 : (dn 23 || ((15 : Nat) == 23)) = false := by rw [f23]; rfl
                                refine OpGoal.imp (S1 := fun W => TN w W [(ob, opO p)] b mb N nn f (if (dn 11) then LX else L) d (if false then LX else L) cs) (fun W' h => ?_) ?_
                                · show (fun W => TN w W [(ob, opO p)] b mb N nn f (if (dn 11 || ((15 : Nat) == 11)) then LX else L) d (if (dn 23 || ((15 : Nat) == 23)) then LX else L) cs) W'
                                  rw [g11, g23]
                                  exact h
                                clear g11 g23 e1 e2 e3
                                obtain rfl : l = [] := hl.symm.trans (by kernel_rfl)
                                clear hp hl
                                refine opgoal (_) (some 144) rfl rfl fun K hK => ?_
                                refine Runs.mk ?_
                                simp only [putAll]
                                go_simp
                                refine hK _ _ ?_ hS ⟨fun h => absurd h (by decide), fun h => absurd h (by decide), fun h11 h23 => ((fun w => trivial) W)⟩ _ rfl rfl
                                first | rfl | go_simp | simp
                              · -- 16: Op.load 3 (Operand.tmp 144)
                                intro l hl vs W dn e1 e2 e3 hS hR hp
                                have f11 : dn 11 = dn 11 := rfl
                                have f23 : dn 23 = false := e3 23 (by kernel_rfl)
                                replace hS : (fun W => TN w W [(ob, opO p)] b mb N nn f (if (dn 11) then LX else L) d (if (dn 23) then LX else L) cs) W := hS
                                rw [f23] at hS
                                have g11 : (dn 11 || ((16 : Nat) == 11)) = dn 11 := Bool.or_false _
                                have g23 : (dn 23 || ((16 : Nat) == 23)) = false := by rw [f23]; rfl
                                refine OpGoal.imp (S1 := fun W => TN w W [(ob, opO p)] b mb N nn f (if (dn 11) then LX else L) d (if false then LX else L) cs) (fun W' h => ?_) ?_
                                · show (fun W => TN w W [(ob, opO p)] b mb N nn f (if (dn 11 || ((16 : Nat) == 11)) then LX else L) d (if (dn 23 || ((16 : Nat) == 23)) then LX else L) cs) W'
                                  rw [g11, g23]
                                  exact h
                                clear g11 g23 e1 e2 e3
                                obtain rfl : l = [(15, 144)] := hl.symm.trans (by kernel_rfl)
                                have p15 : vs 15 = _ := hp 15 (by decide) (by decide)
                                clear hp hl
                                refine opgoal (_) (some 145) rfl rfl fun K hK => ?_
                                obtain ⟨f0, f1, f2, f3⟩ := HCE.out _ _ _ _ _ _ hS
                                refine Runs.mk ?_
                                simp only [putAll]
                                go_simp
                                refine hK _ _ ?_ hS ⟨fun h => absurd h (by decide), fun h => absurd h (by decide), fun h11 h23 => ((fun w => trivial) W)⟩ _ rfl rfl
                                first | rfl | go_simp | simp
                              · -- 17: Op.fieldAddr 39 (Operand.tmp 9) 1
                                intro l hl vs W dn e1 e2 e3 hS hR hp
                                have f11 : dn 11 = dn 11 := rfl
                                have f23 : dn 23 = false := e3 23 (by kernel_rfl)
                                replace hS : (fun W => TN w W [(ob, opO p)] b mb N nn f (if (dn 11) then LX else L) d (if (dn 23) then LX else L) cs) W := hS
                                rw [f23] at hS
                                have g11 : (dn 11 || ((17 : Nat) == 11)) = dn 11 := Bool.or_false _
                                have g23 : (dn 23 || ((17 : Nat) == 23)) = false := by rw [f23]; rfl
                                refine OpGoal.imp (S1 := fun W => TN w W [(ob, opO p)] b mb N nn f (if (dn 11) then LX else L) d (if false then LX else L) cs) (fun W' h => ?_) ?_
                                · show (fun W => TN w W [(ob, opO p)] b mb N nn f (if (dn 11 || ((17 : Nat) == 11)) then LX else L) d (if (dn 23 || ((17 : Nat) == 23)) then LX else L) cs) W'
                                  rw [g11, g23]
                                  exact h
                                clear g11 g23 e1 e2 e3
                                obtain rfl : l = [] := hl.symm.trans (by kernel_rfl)
                                clear hp hl
                                refine opgoal (_) (some 146) rfl rfl fun K hK => ?_
                                refine Runs.mk ?_
                                simp only [putAll]
                                go_simp
                                refine hK _ _ ?_ hS ⟨fun h => absurd h (by decide), fun h => absurd h (by decide), fun h11 h23 => ((fun w => trivial) W)⟩ _ rfl rfl
                                first | rfl | go_simp | simp
                              · -- 18: Op.load 3 (Operand.tmp 146)
                                intro l hl vs W dn e1 e2 e3 hS hR hp
                                have f11 : dn 11 = dn 11 := rfl
                                have f23 : dn 23 = false := e3 23 (by kernel_rfl)
                                replace hS : (fun W => TN w W [(ob, opO p)] b mb N nn f (if (dn 11) then LX else L) d (if (dn 23) then LX else L) cs) W := hS
                                rw [f23] at hS
                                have g11 : (dn 11 || ((18 : Nat) == 11)) = dn 11 := Bool.or_false _
                                have g23 : (dn 23 || ((18 : Nat) == 23)) = false := by rw [f23]; rfl
                                refine OpGoal.imp (S1 := fun W => TN w W [(ob, opO p)] b mb N nn f (if (dn 11) then LX else L) d (if false then LX else L) cs) (fun W' h => ?_) ?_
                                · show (fun W => TN w W [(ob, opO p)] b mb N nn f (if (dn 11 || ((18 : Nat) == 11)) then LX else L) d (if (dn 23 || ((18 : Nat) == 23)) then LX else L) cs) W'
                                  rw [g11, g23]
                                  exact h
                                clear g11 g23 e1 e2 e3
                                obtain rfl : l = [(17, 146)] := hl.symm.trans (by kernel_rfl)
                                have p17 : vs 17 = _ := hp 17 (by decide) (by decide)
                                clear hp hl
                                refine opgoal (_) (some 147) rfl rfl fun K hK => ?_
                                obtain ⟨f0, f1, f2, f3⟩ := HCE.out _ _ _ _ _ _ hS
                                refine Runs.mk ?_
                                simp only [putAll]
                                go_simp
                                refine hK _ _ ?_ hS ⟨fun h => absurd h (by decide), fun h => absurd h (by decide), fun h11 h23 => ((fun w => trivial) W)⟩ _ rfl rfl
                                first | rfl | go_simp | simp
                              · -- 19: Op.fieldAddr 39 (Operand.tmp 9) 2
                                intro l hl vs W dn e1 e2 e3 hS hR hp
                                have f11 : dn 11 = dn 11 := rfl
                                have f23 : dn 23 = false := e3 23 (by kernel_rfl)
                                replace hS : (fun W => TN w W [(ob, opO p)] b mb N nn f (if (dn 11) then LX else L) d (if (dn 23) then LX else L) cs) W := hS
                                rw [f23] at hS
                                have g11 : (dn 11 || ((19 : Nat) == 11)) = dn 11 := Bool.or_false _
                                have g23 : (dn 23 || ((19 : Nat) == 23)) = false := by rw [f23]; rfl
                                refine OpGoal.imp (S1 := fun W => TN w W [(ob, opO p)] b mb N nn f (if (dn 11) then LX else L) d (if false then LX else L) cs) (fun W' h => ?_) ?_
                                · show (fun W => TN w W [(ob, opO p)] b mb N nn f (if (dn 11 || ((19 : Nat) == 11)) then LX else L) d (if (dn 23 || ((19 : Nat) == 23)) then LX else L) cs) W'
                                  rw [g11, g23]
                                  exact h
                                clear g11 g23 e1 e2 e3
                                obtain rfl : l = [] := hl.symm.trans (by kernel_rfl)
                                clear hp hl
                                refine opgoal (_) (some 148) rfl rfl fun K hK => ?_
                                refine Runs.mk ?_
                                simp only [putAll]
                                go_simp
                                refine hK _ _ ?_ hS ⟨fun h => absurd h (by decide), fun h => absurd h (by decide), fun h11 h23 => ((fun w => trivial) W)⟩ _ rfl rfl
                                first | rfl | go_simp | simp
                              · -- 20: Op.load 3 (Operand.tmp 148)
                                intro l hl vs W dn e1 e2 e3 hS hR hp
                                have f11 : dn 11 = dn 11 := rfl
                                have f23 : dn 23 = false := e3 23 (by kernel_rfl)
                                replace hS : (fun W => TN w W [(ob, opO p)] b mb N nn f (if (dn 11) then LX else L) d (if (dn 23) then LX else L) cs) W := hS
                                rw [f23] at hS
                                have g11 : (dn 11 || ((20 : Nat) == 11)) = dn 11 := Bool.or_false _
                                have g23 : (dn 23 || ((20 : Nat) == 23)) = false := by rw [f23]; rfl
                                refine OpGoal.imp (S1 := fun W => TN w W [(ob, opO p)] b mb N nn f (if (dn 11) then LX else L) d (if false then LX else L) cs) (fun W' h => ?_) ?_
                                · show (fun W => TN w W [(ob, opO p)] b mb N nn f (if (dn 11 || ((20 : Nat) == 11)) then LX else L) d (if (dn 23 || ((20 : Nat) == 23)) then LX else L) cs) W'
                                  rw [g11, g23]
                                  exact h
                                clear g11 g23 e1 e2 e3
                                obtain rfl : l = [(19, 148)] := hl.symm.trans (by kernel_rfl)
                                have p19 : vs 19 = _ := hp 19 (by decide) (by decide)
                                clear hp hl
                                refine opgoal (_) (some 149) rfl rfl fun K hK => ?_
                                obtain ⟨f0, f1, f2, f3⟩ := HCE.out _ _ _ _ _ _ hS
                                refine Runs.mk ?_
                                simp only [putAll]
                                go_simp
                                refine hK _ _ ?_ hS ⟨fun h => absurd h (by decide), fun h => absurd h (by decide), fun h11 h23 => ((fun w => trivial) W)⟩ _ rfl rfl
                                first | rfl | go_simp | simp
                              · -- 21: Op.binOp BinOp.xor 3 (Operand.tmp 147) (Operand.tmp 149) 3
                                intro l hl vs W dn e1 e2 e3 hS hR hp
                                have f11 : dn 11 = dn 11 := rfl
                                have f23 : dn 23 = false := e3 23 (by kernel_rfl)
                                replace hS : (fun W => TN w W [(ob, opO p)] b mb N nn f (if (dn 11) then LX else L) d (if (dn 23) then LX else L) cs) W := hS
                                rw [f23] at hS
                                have g11 : (dn 11 || ((21 : Nat) == 11)) = dn 11 := Bool.or_false _
                                have g23 : (dn 23 || ((21 : Nat) == 23)) = false := by rw [f23]; rfl
                                refine OpGoal.imp (S1 := fun W => TN w W [(ob, opO p)] b mb N nn f (if (dn 11) then LX else L) d (if false then LX else L) cs) (fun W' h => ?_) ?_
                                · show (fun W => TN w W [(ob, opO p)] b mb N nn f (if (dn 11 || ((21 : Nat) == 11)) then LX else L) d (if (dn 23 || ((21 : Nat) == 23)) then LX else L) cs) W'
                                  rw [g11, g23]
                                  exact h
                                clear g11 g23 e1 e2 e3
                                obtain rfl : l = [(17, 146), (18, 147), (19, 148), (20, 149)] := hl.symm.trans (by kernel_rfl)
                                have p18 : vs 18 = _ := hp 18 (by decide) (by decide)
                                have p20 : vs 20 = _ := hp 20 (by decide) (by decide)
                                clear hp hl
                                refine opgoal ({ dst := some 150, op := Op.binOp BinOp.xor 3 (Operand.tmp 147) (Operand.tmp 149) 3, type := 3, pos := "law.go:86", after := #[{ on := 18, ground := Ground.data }, { on := 20, ground := Ground.data }], guard := none }) (some 150) rfl rfl fun K hK => ?_
                                refine runs_xor (wanted_none rfl) (.tmp 147) (.tmp 149) rfl oa oB xv (eval_putAll (j := 18) (by simp) (by decide) (by intro k hk; simpa using hk) p18) (eval_putAll (j := 20) (by simp) (by decide) (by intro k hk; simpa using hk) p20) HXV.out ?_
                                exact hK _ _ rfl hS ⟨(fun h => absurd h (by decide)), (fun h => absurd h (by decide)), fun h1 h2 => trivial⟩ _ put_dfs (put_slot (by simp))
                              · -- 22: Op.convert 3 5 (Operand.tmp 150)
                                intro l hl vs W dn e1 e2 e3 hS hR hp
                                have f11 : dn 11 = dn 11 := rfl
                                have f23 : dn 23 = false := e3 23 (by kernel_rfl)
                                replace hS : (fun W => TN w W [(ob, opO p)] b mb N nn f (if (dn 11) then LX else L) d (if (dn 23) then LX else L) cs) W := hS
                                rw [f23] at hS
                                have g11 : (dn 11 || ((22 : Nat) == 11)) = dn 11 := Bool.or_false _
                                have g23 : (dn 23 || ((22 : Nat) == 23)) = false := by rw [f23]; rfl
                                refine OpGoal.imp (S1 := fun W => TN w W [(ob, opO p)] b mb N nn f (if (dn 11) then LX else L) d (if false then LX else L) cs) (fun W' h => ?_) ?_
                                · show (fun W => TN w W [(ob, opO p)] b mb N nn f (if (dn 11 || ((22 : Nat) == 11)) then LX else L) d (if (dn 23 || ((22 : Nat) == 23)) then LX else L) cs) W'
                                  rw [g11, g23]
                                  exact h
                                clear g11 g23 e1 e2 e3
                                obtain rfl : l = [(17, 146), (18, 147), (19, 148), (20, 149), (21, 150)] := hl.symm.trans (by kernel_rfl)
                                have p21 : vs 21 = _ := hp 21 (by decide) (by decide)
                                clear hp hl
                                refine opgoal ({ dst := some 151, op := Op.convert 3 5 (Operand.tmp 150), type := 5, pos := "law.go:86", after := #[{ on := 21, ground := Ground.data }], guard := none }) (some 151) rfl rfl fun K hK => ?_
                                refine runs_byte (wanted_none rfl) (.tmp 150) rfl xv yb (eval_putAll (j := 21) (by simp) (by decide) (by intro k hk; simpa using hk) p21) HYB.out ?_
                                exact hK _ _ rfl hS ⟨(fun h => absurd h (by decide)), (fun h => absurd h (by decide)), fun h1 h2 => trivial⟩ _ put_dfs (put_slot (by simp))
                              · -- 23: Op.call { callee := Callee.value (Operand.func 33), args := #[Operand.tmp 141, Operand.tmp 143, Operand.tmp 145, Operand.tmp 151], argTypes := #[44, 3
                                intro l hl vs W dn e1 e2 e3 hS hR hp
                                have f11 : dn 11 = true := e2 11 (by kernel_rfl)
                                have f23 : dn 23 = false := e1
                                replace hS : (fun W => TN w W [(ob, opO p)] b mb N nn f (if (dn 11) then LX else L) d (if (dn 23) then LX else L) cs) W := hS
                                rw [f11, f23] at hS
                                have g11 : (dn 11 || ((23 : Nat) == 11)) = true := by rw [f11]; rfl
                                have g23 : (dn 23 || ((23 : Nat) == 23)) = true := by rw [f23]; rfl
                                refine OpGoal.imp (S1 := fun W => TN w W [(ob, opO p)] b mb N nn f (if true then LX else L) d (if true then LX else L) cs) (fun W' h => ?_) ?_
                                · show (fun W => TN w W [(ob, opO p)] b mb N nn f (if (dn 11 || ((23 : Nat) == 11)) then LX else L) d (if (dn 23 || ((23 : Nat) == 23)) then LX else L) cs) W'
                                  rw [g11, g23]
                                  exact h
                                clear g11 g23 e1 e2 e3
                                obtain rfl : l = [(0, 129), (1, 130), (2, 131), (3, 132), (4, 133), (5, 134), (6, 135), (7, 136), (8, 137), (9, 138), (10, 139), (11, 140), (12, 141), (13, 142), (14, 143), (15, 144), (16, 145), (17, 146), (18, 147), (19, 148), (20, 149), (21, 150), (22, 151)] := hl.symm.trans (by kernel_rfl)
                                have p12 : vs 12 = _ := hp 12 (by decide) (by decide)
                                have p14 : vs 14 = _ := hp 14 (by decide) (by decide)
                                have p16 : vs 16 = _ := hp 16 (by decide) (by decide)
                                have p22 : vs 22 = _ := hp 22 (by decide) (by decide)
                                clear hp hl
                                refine opgoal (_) (some 152) rfl rfl fun K hK => ?_
                                refine Runs.mk ?_
                                simp only [putAll]
                                go_simp
                                refine (HC2.out W hS).mono ?_
                                rintro e w' ⟨rfl, hn⟩
                                go_simp
                                exact hK _ _ rfl hn ⟨(fun h => absurd h (by decide)), (fun _ => trivial), fun h1 h2 => absurd rfl h2⟩ _ rfl rfl
                              · -- 24: Op.assign (Operand.tmp 140)
                                intro l hl vs W dn e1 e2 e3 hS hR hp
                                have f11 : dn 11 = true := e2 11 (by kernel_rfl)
                                have f23 : dn 23 = true := e2 23 (by kernel_rfl)
                                replace hS : (fun W => TN w W [(ob, opO p)] b mb N nn f (if (dn 11) then LX else L) d (if (dn 23) then LX else L) cs) W := hS
                                rw [f11, f23] at hS
                                have g11 : (dn 11 || ((24 : Nat) == 11)) = true := by rw [f11]; rfl
                                have g23 : (dn 23 || ((24 : Nat) == 23)) = true := by rw [f23]; rfl
                                refine OpGoal.imp (S1 := fun W => TN w W [(ob, opO p)] b mb N nn f (if true then LX else L) d (if true then LX else L) cs) (fun W' h => ?_) ?_
                                · show (fun W => TN w W [(ob, opO p)] b mb N nn f (if (dn 11 || ((24 : Nat) == 11)) then LX else L) d (if (dn 23 || ((24 : Nat) == 23)) then LX else L) cs) W'
                                  rw [g11, g23]
                                  exact h
                                clear g11 g23 e1 e2 e3
                                obtain rfl : l = [(0, 129), (1, 130), (2, 131), (3, 132), (4, 133), (5, 134), (6, 135), (7, 136), (8, 137), (9, 138), (10, 139), (11, 140), (12, 141), (13, 142), (14, 143), (15, 144), (16, 145), (17, 146), (18, 147), (19, 148), (20, 149), (21, 150), (22, 151), (23, 152)] := hl.symm.trans (by kernel_rfl)
                                have p11 : vs 11 = _ := hp 11 (by decide) (by decide)
                                clear hp hl
                                refine opgoal ({ dst := some 10, op := Op.assign (Operand.tmp 140), type := 25, pos := "law.go:86", after := #[{ on := 11, ground := Ground.data }, { on := 23, ground := Ground.chain }, { on := 0, ground := Ground.phase }, { on := 1, ground := Ground.phase }, { on := 2, ground := Ground.phase }, { on := 3, ground := Ground.phase }, { on := 4, ground := Ground.phase }, { on := 5, ground := Ground.phase }, { on := 6, ground := Ground.phase }, { on := 7, ground := Ground.phase }, { on := 8, ground := Ground.phase }, { on := 9, ground := Ground.phase }, { on := 10, ground := Ground.phase }, { on := 11, ground := Ground.phase }, { on := 12, ground := Ground.textOnly Departure.lateStores }, { on := 13, ground := Ground.textOnly Departure.lateStores }, { on := 14, ground := Ground.textOnly Departure.lateStores }, { on := 15, ground := Ground.textOnly Departure.lateStores }, { on := 16, ground := Ground.textOnly Departure.lateStores }, { on := 17, ground := Ground.textOnly Departure.lateStores }, { on := 18, ground := Ground.textOnly Departure.lateStores }, { on := 19, ground := Ground.textOnly Departure.lateStores }, { on := 20, ground := Ground.textOnly Departure.lateStores }, { on := 21, ground := Ground.textOnly Departure.lateStores }, { on := 22, ground := Ground.textOnly Departure.lateStores }, { on := 23, ground := Ground.textOnly Departure.lateStoresUnsure }], guard := none }) (some 10) rfl rfl fun K hK => ?_
                                refine runs_assign (wanted_none rfl) (.tmp 140) rfl (.int .i64 r) (eval_putAll (j := 11) (by simp) (by decide) (by intro k hk; simpa using hk) p11) ?_
                                exact hK _ _ rfl hS ⟨(fun h => absurd h (by decide)), (fun h => absurd h (by decide)), fun h1 h2 => trivial⟩ _ put_dfs (put_slot (by simp))
                              · -- 25: Op.assign (Operand.tmp 152)
                                intro l hl vs W dn e1 e2 e3 hS hR hp
                                have f11 : dn 11 = true := e2 11 (by kernel_rfl)
                                have f23 : dn 23 = true := e2 23 (by kernel_rfl)
                                replace hS : (fun W => TN w W [(ob, opO p)] b mb N nn f (if (dn 11) then LX else L) d (if (dn 23) then LX else L) cs) W := hS
                                rw [f11, f23] at hS
                                have g11 : (dn 11 || ((25 : Nat) == 11)) = true := by rw [f11]; rfl
                                have g23 : (dn 23 || ((25 : Nat) == 23)) = true := by rw [f23]; rfl
                                refine OpGoal.imp (S1 := fun W => TN w W [(ob, opO p)] b mb N nn f (if true then LX else L) d (if true then LX else L) cs) (fun W' h => ?_) ?_
                                · show (fun W => TN w W [(ob, opO p)] b mb N nn f (if (dn 11 || ((25 : Nat) == 11)) then LX else L) d (if (dn 23 || ((25 : Nat) == 23)) then LX else L) cs) W'
                                  rw [g11, g23]
                                  exact h
                                clear g11 g23 e1 e2 e3
                                obtain rfl : l = [(0, 129), (1, 130), (2, 131), (3, 132), (4, 133), (5, 134), (6, 135), (7, 136), (8, 137), (9, 138), (10, 139), (11, 140), (12, 141), (13, 142), (14, 143), (15, 144), (16, 145), (17, 146), (18, 147), (19, 148), (20, 149), (21, 150), (22, 151), (23, 152), (24, 10)] := hl.symm.trans (by kernel_rfl)
                                have p23 : vs 23 = _ := hp 23 (by decide) (by decide)
                                clear hp hl
                                refine opgoal ({ dst := some 11, op := Op.assign (Operand.tmp 152), type := 3, pos := "law.go:86", after := #[{ on := 23, ground := Ground.data }, { on := 24, ground := Ground.chain }, { on := 0, ground := Ground.phase }, { on := 1, ground := Ground.phase }, { on := 2, ground := Ground.phase }, { on := 3, ground := Ground.phase }, { on := 4, ground := Ground.phase }, { on := 5, ground := Ground.phase }, { on := 6, ground := Ground.phase }, { on := 7, ground := Ground.phase }, { on := 8, ground := Ground.phase }, { on := 9, ground := Ground.phase }, { on := 10, ground := Ground.phase }, { on := 11, ground := Ground.phase }, { on := 12, ground := Ground.phase }, { on := 13, ground := Ground.phase }, { on := 14, ground := Ground.phase }, { on := 15, ground := Ground.phase }, { on := 16, ground := Ground.phase }, { on := 17, ground := Ground.phase }, { on := 18, ground := Ground.phase }, { on := 19, ground := Ground.phase }, { on := 20, ground := Ground.phase }, { on := 21, ground := Ground.phase }, { on := 22, ground := Ground.phase }, { on := 23, ground := Ground.phase }, { on := 24, ground := Ground.phase }], guard := none }) (some 11) rfl rfl fun K hK => ?_
                                refine runs_assign (wanted_none rfl) (.tmp 152) rfl (.int .i64 r) (eval_putAll (j := 23) (by simp) (by decide) (by intro k hk; simpa using hk) p23) ?_
                                exact hK _ _ rfl hS ⟨(fun h => absurd h (by decide)), (fun h => absurd h (by decide)), fun h1 h2 => trivial⟩ _ put_dfs (put_slot (by simp))
                            · intro l hl vs W dn hd hS hR hp
                              replace hS : (fun W => TN w W [(ob, opO p)] b mb N nn f (if (dn 11) then LX else L) d (if (dn 23) then LX else L) cs) W := hS
                              rw [hd 11 (by decide), hd 23 (by decide)] at hS
                              obtain rfl : l = [(0, 129), (1, 130), (2, 131), (3, 132), (4, 133), (5, 134), (6, 135), (7, 136), (8, 137), (9, 138), (10, 139), (11, 140), (12, 141), (13, 142), (14, 143), (15, 144), (16, 145), (17, 146), (18, 147), (19, 148), (20, 149), (21, 150), (22, 151), (23, 152), (24, 10), (25, 11)] := hl.symm.trans (by kernel_rfl)
                              have p0 : vs 0 = _ := hp 0 (by decide) (by decide)
                              have p1 : vs 1 = _ := hp 1 (by decide) (by decide)
                              have p2 : vs 2 = _ := hp 2 (by decide) (by decide)
                              have p3 : vs 3 = _ := hp 3 (by decide) (by decide)
                              have p4 : vs 4 = _ := hp 4 (by decide) (by decide)
                              have p5 : vs 5 = _ := hp 5 (by decide) (by decide)
                              have p6 : vs 6 = _ := hp 6 (by decide) (by decide)
                              have p7 : vs 7 = _ := hp 7 (by decide) (by decide)
                              have p8 : vs 8 = _ := hp 8 (by decide) (by decide)
                              have p9 : vs 9 = _ := hp 9 (by decide) (by decide)
                              have p10 : vs 10 = _ := hp 10 (by decide) (by decide)
                              have p11 : vs 11 = _ := hp 11 (by decide) (by decide)
                              have p12 : vs 12 = _ := hp 12 (by decide) (by decide)
                              have p13 : vs 13 = _ := hp 13 (by decide) (by decide)
                              have p14 : vs 14 = _ := hp 14 (by decide) (by decide)
                              have p15 : vs 15 = _ := hp 15 (by decide) (by decide)
                              have p16 : vs 16 = _ := hp 16 (by decide) (by decide)
                              have p17 : vs 17 = _ := hp 17 (by decide) (by decide)
                              have p18 : vs 18 = _ := hp 18 (by decide) (by decide)
                              have p19 : vs 19 = _ := hp 19 (by decide) (by decide)
                              have p20 : vs 20 = _ := hp 20 (by decide) (by decide)
                              have p21 : vs 21 = _ := hp 21 (by decide) (by decide)
                              have p22 : vs 22 = _ := hp 22 (by decide) (by decide)
                              have p23 : vs 23 = _ := hp 23 (by decide) (by decide)
                              have p24 : vs 24 = _ := hp 24 (by decide) (by decide)
                              have p25 : vs 25 = _ := hp 25 (by decide) (by decide)
                              clear hp hl
                              simp only [putAll_mk, setAll, List.setIfInBounds_toArray, List.set_cons_succ, List.set_cons_zero, p0, p1, p2, p3, p4, p5, p6, p7, p8, p9, p10, p11, p12, p13, p14, p15, p16, p17, p18, p19, p20, p21, p22, p23, p24, p25]
                              have HS := Lib.hid hS
                              clear hS hR hS0
                              go_wp2_with fail
                              go_meet
                              exact ⟨_, _, rfl, rfl, HF2.out _ HS.out⟩
                        · have e6 : (ok == 6) = false := by simpa using k6
                          have HF2 := Lib.hid ((HFIN nn f L cs (by omega) (by omega) HQ.out.2.2.1 HQ.out.2.2.2 hL256).out _ HNP.out)
                          clear k0 k1 k2 k3 k4 k5 k6 c0 c1 c2 c3 HFIN
                          go_wp2_with fail
                          go_meet
                          exact ⟨_, _, rfl, rfl, HF2.out⟩
          case rest =>
            obtain ⟨r, L', rfl, rfl, hpl2, hlen2⟩ := hcut
            obtain ⟨nn', f', cs', htn', hPR⟩ := hpl2.out
            have hS0 := htn'.below (below_drewN 1 _)
            have HPR := Lib.hid hPR
            have HL5 := Lib.hid hlen2
            obtain ⟨ln5, hln5⟩ : ∃ ln5, Hid (L'.length = ln5) := ⟨_, Lib.hid rfl⟩
            clear htn' hPR hlen2
            go_wp2_with fail
            refine wp_region_one (fun W => TN w W [] b mb N nn' f' L' d L' cs') (fun u v => Below u.heap.size u v) (fun a i => match i with
                | 0 => (fun v _ => v = .int .i64 r)
                | 1 => (fun v _ => v = .int .i64 r)
                | 2 => (fun v _ => v = .bool false)
                | 3 => (fun v _ => v = .bool false)
                | 4 => (fun v _ => v = .pointer (some ⟨b, 0, none⟩))
                | 5 => (fun v _ => v = .int .i64 (ln5 : Int))
                | 6 => (fun v _ => v = .pointer (some ⟨d, 0, none⟩))
                | 7 => (fun v _ => v = .pointer (some ⟨d, 0, none⟩))
                | 8 => (fun v _ => v = .pointer (some ⟨d, 1, none⟩))
                | 9 => (fun v W => ∃ A c, v = .slice A ln5 c ∧ RdE W A ln5 4 (L'.map encP))
                | 10 => (fun v _ => v = .int .i64 (ln5 : Int))
                | 11 => (fun v _ => v = .bool false)
                | 12 => (fun v _ => v = .bool false)
                | 13 => (fun v _ => v = .bool false)
                | 14 => (fun v _ => v = .pointer (some ⟨b, 0, none⟩))
                | 15 => (fun v W => ∃ A c, v = .slice A ln5 c ∧ RdE W A ln5 4 (L'.map encP))
                | 16 => (fun v W => ∃ A c, v = .slice A ln5 c ∧ RdE W A ln5 4 (L'.map encP))
                | 17 => (fun v _ => v = .pointer (some ⟨d, 0, none⟩))
                | 18 => (fun v _ => v = .pointer (some ⟨d, 0, none⟩))
                | 19 => (fun v _ => v = .pointer (some ⟨d, 1, none⟩))
                | 20 => (fun v W => ∃ A c, v = .slice A ln5 c ∧ RdE W A ln5 4 (L'.map encP))
                | 21 => (fun v _ => v = .bool true)
                | 22 => (fun v _ => v = .bool false)
                | 23 => (fun v _ => v = .bool false)
                | _ => (fun _ _ => True)) #[0, 0, 3, 7, 15, 31, 15, 79, 207, 463, 975, 2047, 4095, 8191, 16383, 32767, 65535, 16383, 147455, 409599, 933887, 2097151, 4194303, 8388607] #[0, 0, 3, 4, 8, 24, 8, 72, 136, 264, 520, 1064, 2056, 4096, 8192, 24576, 40960, 8192, 139264, 270336, 532480, 1122304, 2105344, 4202496] 15629823 (by kernel_rfl) 24 rfl (fun m hm => by subst hm; kernel_rfl) (by kernel_rfl) (fun w => Below.refl _ w) (fun u v w h1 h2 => below2 h1 h2) ?_ (hS0) ?_ ?_
            · intro i hi
              rcases (by omega : i = 0 ∨ i = 1 ∨ i = 2 ∨ i = 3 ∨ i = 4 ∨ i = 5 ∨ i = 6 ∨ i = 7 ∨ i = 8 ∨ i = 9 ∨ i = 10 ∨ i = 11 ∨ i = 12 ∨ i = 13 ∨ i = 14 ∨ i = 15 ∨ i = 16 ∨ i = 17 ∨ i = 18 ∨ i = 19 ∨ i = 20 ∨ i = 21 ∨ i = 22 ∨ i = 23) with rfl | rfl | rfl | rfl | rfl | rfl | rfl | rfl | rfl | rfl | rfl | rfl | rfl | rfl | rfl | rfl | rfl | rfl | rfl | rfl | rfl | rfl | rfl | rfl
              · exact fun v w w' h hr => by exact h
              · exact fun v w w' h hr => by exact h
              · exact fun v w w' h hr => by exact h
              · exact fun v w w' h hr => by exact h
              · exact fun v w w' h hr => by exact h
              · exact fun v w w' h hr => by exact h
              · exact fun v w w' h hr => by exact h
              · exact fun v w w' h hr => by exact h
              · exact fun v w w' h hr => by exact h
              · exact fun v w w' h hr => by obtain ⟨A, c, h1, h2⟩ := h; exact ⟨A, c, h1, h2.below hr⟩
              · exact fun v w w' h hr => by exact h
              · exact fun v w w' h hr => by exact h
              · exact fun v w w' h hr => by exact h
              · exact fun v w w' h hr => by exact h
              · exact fun v w w' h hr => by exact h
              · exact fun v w w' h hr => by obtain ⟨A, c, h1, h2⟩ := h; exact ⟨A, c, h1, h2.below hr⟩
              · exact fun v w w' h hr => by obtain ⟨A, c, h1, h2⟩ := h; exact ⟨A, c, h1, h2.below hr⟩
              · exact fun v w w' h hr => by exact h
              · exact fun v w w' h hr => by exact h
              · exact fun v w w' h hr => by exact h
              · exact fun v w w' h hr => by obtain ⟨A, c, h1, h2⟩ := h; exact ⟨A, c, h1, h2.below hr⟩
              · exact fun v w w' h hr => by exact h
              · exact fun v w w' h hr => by exact h
              · exact fun v w w' h hr => by exact h
            · intro i hi
              rcases (by omega : i = 0 ∨ i = 1 ∨ i = 2 ∨ i = 3 ∨ i = 4 ∨ i = 5 ∨ i = 6 ∨ i = 7 ∨ i = 8 ∨ i = 9 ∨ i = 10 ∨ i = 11 ∨ i = 12 ∨ i = 13 ∨ i = 14 ∨ i = 15 ∨ i = 16 ∨ i = 17 ∨ i = 18 ∨ i = 19 ∨ i = 20 ∨ i = 21 ∨ i = 22 ∨ i = 23) with rfl | rfl | rfl | rfl | rfl | rfl | rfl | rfl | rfl | rfl | rfl | rfl | rfl | rfl | rfl | rfl | rfl | rfl | rfl | rfl | rfl | rfl | rfl | rfl
              · -- 0: Op.move (Operand.tmp 10)
                intro l hl vs W hS hR hp
                obtain rfl : l = [] := hl.symm.trans (by kernel_rfl)
                clear hp hl
                refine opgoal (_) (some 153) rfl rfl fun K hK => ?_
                refine Runs.mk ?_
                simp only [putAll]
                go_simp
                refine hK _ _ ?_ hS ((fun w => Below.refl _ w) W) _ rfl rfl
                first | rfl | go_simp | simp
              · -- 1: Op.move (Operand.tmp 11)
                intro l hl vs W hS hR hp
                obtain rfl : l = [] := hl.symm.trans (by kernel_rfl)
                clear hp hl
                refine opgoal (_) (some 154) rfl rfl fun K hK => ?_
                refine Runs.mk ?_
                simp only [putAll]
                go_simp
                refine hK _ _ ?_ hS ((fun w => Below.refl _ w) W) _ rfl rfl
                first | rfl | go_simp | simp
              · -- 2: Op.binOp BinOp.neq 3 (Operand.tmp 153) (Operand.tmp 154) 3
                intro l hl vs W hS hR hp
                obtain rfl : l = [(0, 153), (1, 154)] := hl.symm.trans (by kernel_rfl)
                have p0 : vs 0 = _ := hp 0 (by decide) (by decide)
                have p1 : vs 1 = _ := hp 1 (by decide) (by decide)
                clear hp hl
                refine opgoal (_) (some 155) rfl rfl fun K hK => ?_
                refine Runs.mk ?_
                simp only [putAll]
                go_simp
                refine hK _ _ ?_ hS ((fun w => Below.refl _ w) W) _ rfl rfl
                first | rfl | go_simp | simp
              · -- 3: Op.move (Operand.tmp 155)
                intro l hl vs W hS hR hp
                obtain rfl : l = [(0, 153), (1, 154), (2, 155)] := hl.symm.trans (by kernel_rfl)
                have p2 : vs 2 = _ := hp 2 (by decide) (by decide)
                clear hp hl
                refine opgoal (_) (some 156) rfl rfl fun K hK => ?_
                refine Runs.mk ?_
                simp only [putAll]
                go_simp
                refine hK _ _ ?_ hS ((fun w => Below.refl _ w) W) _ rfl rfl
                first | rfl | go_simp | simp
              · -- 4: Op.move (Operand.tmp 5)  [(3, 'false')]
                intro l hl vs W hS hR hp
                obtain rfl : l = [(0, 153), (1, 154), (2, 155), (3, 156)] := hl.symm.trans (by kernel_rfl)
                have p3 : vs 3 = _ := hp 3 (by decide) (by decide)
                clear hp hl
                refine opgoal (_) (some 157) rfl rfl fun K hK => ?_
                refine Runs.mk ?_
                simp only [putAll]
                go_simp
                refine hK _ _ ?_ hS ((fun w => Below.refl _ w) W) _ rfl rfl
                first | rfl | go_simp | simp
              · -- 5: Op.call { callee := Callee.value (Operand.func 18), args := #[Operand.tmp 157], argTypes := #[24] }  [(3, 'false')]
                intro l hl vs W hS hR hp
                obtain rfl : l = [(0, 153), (1, 154), (2, 155), (3, 156), (4, 157)] := hl.symm.trans (by kernel_rfl)
                have p3 : vs 3 = _ := hp 3 (by decide) (by decide)
                have p4 : vs 4 = _ := hp 4 (by decide) (by decide)
                clear hp hl
                refine opgoal (_) (some 158) rfl rfl fun K hK => ?_
                refine Runs.mk ?_
                simp only [putAll]
                go_simp
                refine (tn_len hS).mono ?_
                rintro e w' ⟨rfl, rfl⟩
                rw [hln5.out]
                go_simp
                exact hK _ _ rfl hS (Below.refl _ _) _ rfl rfl
              · -- 6: Op.move (Operand.tmp 7)  [(3, 'false')]
                intro l hl vs W hS hR hp
                obtain rfl : l = [(0, 153), (1, 154), (2, 155), (3, 156)] := hl.symm.trans (by kernel_rfl)
                have p3 : vs 3 = _ := hp 3 (by decide) (by decide)
                clear hp hl
                refine opgoal (_) (some 159) rfl rfl fun K hK => ?_
                refine Runs.mk ?_
                simp only [putAll]
                go_simp
                refine hK _ _ ?_ hS ((fun w => Below.refl _ w) W) _ rfl rfl
                first | rfl | go_simp | simp
              · -- 7: Op.nilCheck (Operand.tmp 159)  [(3, 'false')]
                intro l hl vs W hS hR hp
                obtain rfl : l = [(0, 153), (1, 154), (2, 155), (3, 156), (6, 159)] := hl.symm.trans (by kernel_rfl)
                have p3 : vs 3 = _ := hp 3 (by decide) (by decide)
                have p6 : vs 6 = _ := hp 6 (by decide) (by decide)
                clear hp hl
                refine opgoal (_) (some 160) rfl rfl fun K hK => ?_
                refine Runs.mk ?_
                simp only [putAll]
                go_simp
                refine hK _ _ ?_ hS ((fun w => Below.refl _ w) W) _ rfl rfl
                first | rfl | go_simp | simp
              · -- 8: Op.fieldAddr 56 (Operand.tmp 160) 1  [(3, 'false')]
                intro l hl vs W hS hR hp
                obtain rfl : l = [(0, 153), (1, 154), (2, 155), (3, 156), (6, 159), (7, 160)] := hl.symm.trans (by kernel_rfl)
                have p3 : vs 3 = _ := hp 3 (by decide) (by decide)
                have p7 : vs 7 = _ := hp 7 (by decide) (by decide)
                clear hp hl
                refine opgoal (_) (some 161) rfl rfl fun K hK => ?_
                refine Runs.mk ?_
                simp only [putAll]
                go_simp
                refine hK _ _ ?_ hS ((fun w => Below.refl _ w) W) _ rfl rfl
                first | rfl | go_simp | simp
              · -- 9: Op.load 47 (Operand.tmp 161)  [(3, 'false')]
                intro l hl vs W hS hR hp
                obtain rfl : l = [(0, 153), (1, 154), (2, 155), (3, 156), (6, 159), (7, 160), (8, 161)] := hl.symm.trans (by kernel_rfl)
                have p3 : vs 3 = _ := hp 3 (by decide) (by decide)
                have p8 : vs 8 = _ := hp 8 (by decide) (by decide)
                clear hp hl
                refine opgoal (_) (some 162) rfl rfl fun K hK => ?_
                obtain ⟨A, c, hcd, hrd⟩ := tn_row hS
                rw [hln5.out] at hcd hrd
                refine Runs.mk ?_
                simp only [putAll]
                go_simp
                exact hK _ _ ⟨A, c, rfl, hrd⟩ hS (Below.refl _ _) _ rfl rfl
              · -- 10: Op.call { callee := Callee.builtin Builtin.len, args := #[Operand.tmp 162], argTypes := #[47] }  [(3, 'false')]
                intro l hl vs W hS hR hp
                obtain rfl : l = [(0, 153), (1, 154), (2, 155), (3, 156), (6, 159), (7, 160), (8, 161), (9, 162)] := hl.symm.trans (by kernel_rfl)
                have p3 : vs 3 = _ := hp 3 (by decide) (by decide)
                have p9 : (fun v W => ∃ A c, v = .slice A ln5 c ∧ RdE W A ln5 4 (L'.map encP)) (vs 9) W := hp 9 (by decide) (by decide)
                dsimp only at p9
                clear hp hl
                obtain ⟨A9, c9, q9, r9⟩ := p9
                refine opgoal (_) (some 163) rfl rfl fun K hK => ?_
                refine Runs.mk ?_
                simp only [putAll]
                go_simp
                refine hK _ _ ?_ hS ((fun w => Below.refl _ w) W) _ rfl rfl
                first | rfl | go_simp | simp
              · -- 11: Op.binOp BinOp.neq 3 (Operand.tmp 158) (Operand.tmp 163) 3  [(3, 'false')]
                intro l hl vs W hS hR hp
                obtain rfl : l = [(0, 153), (1, 154), (2, 155), (3, 156), (4, 157), (5, 158), (6, 159), (7, 160), (8, 161), (9, 162), (10, 163)] := hl.symm.trans (by kernel_rfl)
                have p3 : vs 3 = _ := hp 3 (by decide) (by decide)
                have p5 : vs 5 = _ := hp 5 (by decide) (by decide)
                have p10 : vs 10 = _ := hp 10 (by decide) (by decide)
                clear hp hl
                refine opgoal (_) (some 164) rfl rfl fun K hK => ?_
                refine Runs.mk ?_
                simp only [putAll]
                go_simp
                refine hK _ _ ?_ hS ((fun w => Below.refl _ w) W) _ rfl rfl
                first | rfl | go_simp | simp
              · -- 12: Op.pick (Operand.tmp 156) (Operand.const (Value.bool true)) (Operand.tmp 164)
                intro l hl vs W hS hR hp
                obtain rfl : l = [(0, 153), (1, 154), (2, 155), (3, 156), (4, 157), (5, 158), (6, 159), (7, 160), (8, 161), (9, 162), (10, 163), (11, 164)] := hl.symm.trans (by kernel_rfl)
                have p3 : vs 3 = _ := hp 3 (by decide) (by decide)
                have p11 : vs 11 = _ := hp 11 (by decide) (by decide)
                clear hp hl
                refine opgoal (_) (some 165) rfl rfl fun K hK => ?_
                refine Runs.mk ?_
                simp only [putAll]
                go_simp
                refine hK _ _ ?_ hS ((fun w => Below.refl _ w) W) _ rfl rfl
                first | rfl | go_simp | simp
              · -- 13: Op.move (Operand.tmp 165)
                intro l hl vs W hS hR hp
                obtain rfl : l = [(0, 153), (1, 154), (2, 155), (3, 156), (4, 157), (5, 158), (6, 159), (7, 160), (8, 161), (9, 162), (10, 163), (11, 164), (12, 165)] := hl.symm.trans (by kernel_rfl)
                have p12 : vs 12 = _ := hp 12 (by decide) (by decide)
                clear hp hl
                refine opgoal (_) (some 166) rfl rfl fun K hK => ?_
                refine Runs.mk ?_
                simp only [putAll]
                go_simp
                refine hK _ _ ?_ hS ((fun w => Below.refl _ w) W) _ rfl rfl
                first | rfl | go_simp | simp
              · -- 14: Op.move (Operand.tmp 5)  [(13, 'false')]
                intro l hl vs W hS hR hp
                obtain rfl : l = [(0, 153), (1, 154), (2, 155), (3, 156), (4, 157), (5, 158), (6, 159), (7, 160), (8, 161), (9, 162), (10, 163), (11, 164), (12, 165), (13, 166)] := hl.symm.trans (by kernel_rfl)
                have p13 : vs 13 = _ := hp 13 (by decide) (by decide)
                clear hp hl
                refine opgoal (_) (some 167) rfl rfl fun K hK => ?_
                refine Runs.mk ?_
                simp only [putAll]
                go_simp
                refine hK _ _ ?_ hS ((fun w => Below.refl _ w) W) _ rfl rfl
                first | rfl | go_simp | simp
              · -- 15: Op.call { callee := Callee.value (Operand.func 21), args := #[Operand.tmp 167], argTypes := #[24] }  [(13, 'false')]
                intro l hl vs W hS hR hp
                obtain rfl : l = [(0, 153), (1, 154), (2, 155), (3, 156), (4, 157), (5, 158), (6, 159), (7, 160), (8, 161), (9, 162), (10, 163), (11, 164), (12, 165), (13, 166), (14, 167)] := hl.symm.trans (by kernel_rfl)
                have p13 : vs 13 = _ := hp 13 (by decide) (by decide)
                have p14 : vs 14 = _ := hp 14 (by decide) (by decide)
                clear hp hl
                refine opgoal (_) (some 168) rfl rfl fun K hK => ?_
                refine Runs.mk ?_
                simp only [putAll]
                go_simp
                refine (tn_all hS (by have := HL5.out; omega)).mono ?_
                rintro e w' ⟨A, c, rfl, hrd, hb⟩
                rw [hln5.out] at hrd ⊢
                go_simp
                exact hK _ _ ⟨A, c, rfl, hrd⟩ (hS.below hb) hb _ rfl rfl
              · -- 16: Op.call { callee := Callee.value (Operand.func 27), args := #[Operand.tmp 168], argTypes := #[22] }  [(13, 'false')]
                intro l hl vs W hS hR hp
                obtain rfl : l = [(0, 153), (1, 154), (2, 155), (3, 156), (4, 157), (5, 158), (6, 159), (7, 160), (8, 161), (9, 162), (10, 163), (11, 164), (12, 165), (13, 166), (14, 167), (15, 168)] := hl.symm.trans (by kernel_rfl)
                have p13 : vs 13 = _ := hp 13 (by decide) (by decide)
                have p15 : (fun v W => ∃ A c, v = .slice A ln5 c ∧ RdE W A ln5 4 (L'.map encP)) (vs 15) W := hp 15 (by decide) (by decide)
                dsimp only at p15
                clear hp hl
                obtain ⟨A, c, q1, r1⟩ := p15
                refine opgoal (_) (some 169) rfl rfl fun K hK => ?_
                refine Runs.mk ?_
                simp only [putAll]
                go_simp
                refine (plain_pkts A ln5 c L' W r1 (by have := HL5.out; have := hln5.out; omega)).mono ?_
                rintro e w' ⟨v2, rfl, ho, hb⟩
                obtain ⟨A2, c2, rfl, hrd, -, -⟩ := own_rdE ho encP_len hln5.out
                go_simp
                exact hK _ _ ⟨A2, c2, rfl, hrd⟩ (hS.below hb) hb _ rfl rfl
              · -- 17: Op.move (Operand.tmp 7)  [(13, 'false')]
                intro l hl vs W hS hR hp
                obtain rfl : l = [(0, 153), (1, 154), (2, 155), (3, 156), (4, 157), (5, 158), (6, 159), (7, 160), (8, 161), (9, 162), (10, 163), (11, 164), (12, 165), (13, 166)] := hl.symm.trans (by kernel_rfl)
                have p13 : vs 13 = _ := hp 13 (by decide) (by decide)
                clear hp hl
                refine opgoal (_) (some 170) rfl rfl fun K hK => ?_
                refine Runs.mk ?_
                simp only [putAll]
                go_simp
                refine hK _ _ ?_ hS ((fun w => Below.refl _ w) W) _ rfl rfl
                first | rfl | go_simp | simp
              · -- 18: Op.nilCheck (Operand.tmp 170)  [(13, 'false')]
                intro l hl vs W hS hR hp
                obtain rfl : l = [(0, 153), (1, 154), (2, 155), (3, 156), (4, 157), (5, 158), (6, 159), (7, 160), (8, 161), (9, 162), (10, 163), (11, 164), (12, 165), (13, 166), (17, 170)] := hl.symm.trans (by kernel_rfl)
                have p13 : vs 13 = _ := hp 13 (by decide) (by decide)
                have p17 : vs 17 = _ := hp 17 (by decide) (by decide)
                clear hp hl
                refine opgoal (_) (some 171) rfl rfl fun K hK => ?_
                refine Runs.mk ?_
                simp only [putAll]
                go_simp
                refine hK _ _ ?_ hS ((fun w => Below.refl _ w) W) _ rfl rfl
                first | rfl | go_simp | simp
              · -- 19: Op.fieldAddr 56 (Operand.tmp 171) 1  [(13, 'false')]
                intro l hl vs W hS hR hp
                obtain rfl : l = [(0, 153), (1, 154), (2, 155), (3, 156), (4, 157), (5, 158), (6, 159), (7, 160), (8, 161), (9, 162), (10, 163), (11, 164), (12, 165), (13, 166), (17, 170), (18, 171)] := hl.symm.trans (by kernel_rfl)
                have p13 : vs 13 = _ := hp 13 (by decide) (by decide)
                have p18 : vs 18 = _ := hp 18 (by decide) (by decide)
                clear hp hl
                refine opgoal (_) (some 172) rfl rfl fun K hK => ?_
                refine Runs.mk ?_
                simp only [putAll]
                go_simp
                refine hK _ _ ?_ hS ((fun w => Below.refl _ w) W) _ rfl rfl
                first | rfl | go_simp | simp
              · -- 20: Op.load 47 (Operand.tmp 172)  [(13, 'false')]
                intro l hl vs W hS hR hp
                obtain rfl : l = [(0, 153), (1, 154), (2, 155), (3, 156), (4, 157), (5, 158), (6, 159), (7, 160), (8, 161), (9, 162), (10, 163), (11, 164), (12, 165), (13, 166), (17, 170), (18, 171), (19, 172)] := hl.symm.trans (by kernel_rfl)
                have p13 : vs 13 = _ := hp 13 (by decide) (by decide)
                have p19 : vs 19 = _ := hp 19 (by decide) (by decide)
                clear hp hl
                refine opgoal (_) (some 173) rfl rfl fun K hK => ?_
                obtain ⟨A, c, hcd, hrd⟩ := tn_row hS
                rw [hln5.out] at hcd hrd
                refine Runs.mk ?_
                simp only [putAll]
                go_simp
                exact hK _ _ ⟨A, c, rfl, hrd⟩ hS (Below.refl _ _) _ rfl rfl
              · -- 21: Op.call { callee := Callee.value (Operand.func 34), args := #[Operand.tmp 169, Operand.tmp 173], argTypes := #[47, 47] }  [(13, 'false')]
                intro l hl vs W hS hR hp
                obtain rfl : l = [(0, 153), (1, 154), (2, 155), (3, 156), (4, 157), (5, 158), (6, 159), (7, 160), (8, 161), (9, 162), (10, 163), (11, 164), (12, 165), (13, 166), (14, 167), (15, 168), (16, 169), (17, 170), (18, 171), (19, 172), (20, 173)] := hl.symm.trans (by kernel_rfl)
                have p13 : vs 13 = _ := hp 13 (by decide) (by decide)
                have p16 : (fun v W => ∃ A c, v = .slice A ln5 c ∧ RdE W A ln5 4 (L'.map encP)) (vs 16) W := hp 16 (by decide) (by decide)
                dsimp only at p16
                have p20 : (fun v W => ∃ A c, v = .slice A ln5 c ∧ RdE W A ln5 4 (L'.map encP)) (vs 20) W := hp 20 (by decide) (by decide)
                dsimp only at p20
                clear hp hl
                obtain ⟨A1, c1, q2, r2⟩ := p16
                obtain ⟨A2, c2, q6, r6⟩ := p20
                refine opgoal (_) (some 174) rfl rfl fun K hK => ?_
                refine Runs.mk ?_
                simp only [putAll]
                go_simp
                refine (same_pkts A1 A2 ln5 c1 c2 L' W r2 r6).mono ?_
                rintro e w' ⟨rfl, hb⟩
                go_simp
                exact hK _ _ rfl (hS.below hb) hb _ rfl rfl
              · -- 22: Op.unOp UnOp.not 4 (Operand.tmp 174)  [(13, 'false')]
                intro l hl vs W hS hR hp
                obtain rfl : l = [(0, 153), (1, 154), (2, 155), (3, 156), (4, 157), (5, 158), (6, 159), (7, 160), (8, 161), (9, 162), (10, 163), (11, 164), (12, 165), (13, 166), (14, 167), (15, 168), (16, 169), (17, 170), (18, 171), (19, 172), (20, 173), (21, 174)] := hl.symm.trans (by kernel_rfl)
                have p13 : vs 13 = _ := hp 13 (by decide) (by decide)
                have p21 : vs 21 = _ := hp 21 (by decide) (by decide)
                clear hp hl
                refine opgoal (_) (some 175) rfl rfl fun K hK => ?_
                refine Runs.mk ?_
                simp only [putAll]
                go_simp
                refine hK _ _ ?_ hS ((fun w => Below.refl _ w) W) _ rfl rfl
                first | rfl | go_simp | simp
              · -- 23: Op.pick (Operand.tmp 166) (Operand.const (Value.bool true)) (Operand.tmp 175)
                intro l hl vs W hS hR hp
                obtain rfl : l = [(0, 153), (1, 154), (2, 155), (3, 156), (4, 157), (5, 158), (6, 159), (7, 160), (8, 161), (9, 162), (10, 163), (11, 164), (12, 165), (13, 166), (14, 167), (15, 168), (16, 169), (17, 170), (18, 171), (19, 172), (20, 173), (21, 174), (22, 175)] := hl.symm.trans (by kernel_rfl)
                have p13 : vs 13 = _ := hp 13 (by decide) (by decide)
                have p22 : vs 22 = _ := hp 22 (by decide) (by decide)
                clear hp hl
                refine opgoal (_) (some 176) rfl rfl fun K hK => ?_
                refine Runs.mk ?_
                simp only [putAll]
                go_simp
                refine hK _ _ ?_ hS ((fun w => Below.refl _ w) W) _ rfl rfl
                first | rfl | go_simp | simp
            · intro l hl vs W hS hR hp
              obtain rfl : l = [(0, 153), (1, 154), (2, 155), (3, 156), (4, 157), (5, 158), (6, 159), (7, 160), (8, 161), (9, 162), (10, 163), (11, 164), (12, 165), (13, 166), (14, 167), (15, 168), (16, 169), (17, 170), (18, 171), (19, 172), (20, 173), (21, 174), (22, 175), (23, 176)] := hl.symm.trans (by kernel_rfl)
              have p0 : vs 0 = _ := hp 0 (by decide) (by decide)
              have p1 : vs 1 = _ := hp 1 (by decide) (by decide)
              have p2 : vs 2 = _ := hp 2 (by decide) (by decide)
              have p3 : vs 3 = _ := hp 3 (by decide) (by decide)
              have p4 : vs 4 = _ := hp 4 (by decide) (by decide)
              have p5 : vs 5 = _ := hp 5 (by decide) (by decide)
              have p6 : vs 6 = _ := hp 6 (by decide) (by decide)
              have p7 : vs 7 = _ := hp 7 (by decide) (by decide)
              have p8 : vs 8 = _ := hp 8 (by decide) (by decide)
              have p10 : vs 10 = _ := hp 10 (by decide) (by decide)
              have p11 : vs 11 = _ := hp 11 (by decide) (by decide)
              have p12 : vs 12 = _ := hp 12 (by decide) (by decide)
              have p13 : vs 13 = _ := hp 13 (by decide) (by decide)
              have p14 : vs 14 = _ := hp 14 (by decide) (by decide)
              have p17 : vs 17 = _ := hp 17 (by decide) (by decide)
              have p18 : vs 18 = _ := hp 18 (by decide) (by decide)
              have p19 : vs 19 = _ := hp 19 (by decide) (by decide)
              have p21 : vs 21 = _ := hp 21 (by decide) (by decide)
              have p22 : vs 22 = _ := hp 22 (by decide) (by decide)
              have p23 : vs 23 = _ := hp 23 (by decide) (by decide)
              clear hp hl
              simp only [putAll_mk, setAll, List.setIfInBounds_toArray, List.set_cons_succ, List.set_cons_zero, p0, p1, p2, p3, p4, p5, p6, p7, p8, p10, p11, p12, p13, p14, p17, p18, p19, p21, p22, p23]
              have HS := Lib.hid hS
              clear hS hR hS0
              go_wp2_with fail
              go_roundw
              case rel => exact ⟨k + 1, L', by omega, by go_num, Lib.hid ⟨nn', f', cs', HS.out, HPR.out⟩, HL5.out⟩
              case measure => simp [intOf]; omega
        · obtain rfl : k = n := by omega
          obtain ⟨nn, f, cs, htn, -⟩ := hpl.out
          have HB := Lib.hid htn.bel
          clear htn hpl
          go_wp2
          go_ret
          exact ⟨rfl, HB.out⟩
theorem plays_row (w : World) (a : Int) (s : Sl OpN) (ha : (Lit.int .i64 a).wf = true) (hs : SlOk w 4 48 encN (goodN2 w) s) :
    Calls Try.prog 5 #[.int .i64 a, .slice s.A s.n s.c] w fun e w' => e = .returned (.bool true) ∧ Below w.heap.size w w' :=
  plays_walk w a s.A s.n s.c s.xs (nscript_of hs)
end Go.Proofs.Ytbdcgfdchkbcnaa.Ne

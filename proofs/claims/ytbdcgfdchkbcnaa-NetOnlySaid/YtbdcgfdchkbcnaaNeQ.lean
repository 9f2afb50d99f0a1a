/- net: the law NetOnly. -/
import Derived.Test.YtbdcgfdchkbcnaaNeP
import Derived.Test.YtbdcgfdchkbcnaaD
namespace Go.Proofs.Ytbdcgfdchkbcnaa.Ne
open Go.RowKit Go.Proofs.Ytbdcgfdchkbcnaa.L Go.Proofs.Ytbdcgfdchkbcnaa.O Go.Proofs.Ytbdcgfdchkbcnaa.R Go.Proofs.Ytbdcgfdchkbcnaa.A Go.Proofs.Ytbdcgfdchkbcnaa.S Go.Proofs.Ytbdcgfdchkbcnaa.T Go.Proofs.Ytbdcgfdchkbcnaa.C Go.Proofs.Ytbdcgfdchkbcnaa.G Go.Proofs.Ytbdcgfdchkbcnaa.E
set_option linter.unusedVariables false
set_option linter.unusedSimpArgs false

/-- the joint state at the head of each round. -/
def OnL (w wr : World) (b mb cb N B k : Nat) (Ls : List Pkt) : Prop :=
  ∃ (nn : Nat) (f : Int → Int → Bool) (m : Nat) (g : Pkt → Int) (M : Obj), NP w wr [(cb, M)] b mb N nn f Ls ∧ nn ≤ k ∧ Cntd cb M m g ∧ m ≤ B ∧ CI g Ls B ∧ ∀ y ∈ Ls, goodP y
theorem sendL_mem (N : Nat) (f : Int → Int → Bool) (y : Pkt) : ∀ (ps L : List Pkt), y ∈ (sendL N f ps L).1 → y ∈ L ∨ y ∈ ps
  | [], L, h => by simp [sendL] at h; exact .inl h
  | p :: ps, L, h => by
    unfold sendL at h
    split at h
    · rcases sendL_mem N f y ps _ h with h | h
      · rcases List.mem_append.1 h with h | h
        · exact .inl h
        · exact .inr (by simp at h; simp [h])
      · exact .inr (by simp [h])
    · rcases sendL_mem N f y ps _ h with h | h
      · exact .inl h
      · exact .inr (by simp [h])
set_option maxHeartbeats 16000000 in
set_option maxRecDepth 100000 in
theorem only_walk (w : World) (mm : Nat) (hmm : mm < 256) (A : Option Addr) (n c : Nat) (ops : List OpN) (hsc : NScript w A n ops) :
    Calls Try.prog 4 #[.int .u8 mm, .slice A n c] w fun e w' => e = .returned (.bool true) ∧ Below w.heap.size w w' := by
  obtain ⟨N, hN⟩ : ∃ N : Nat, Hid ((mm : Int) % 16 + 1 = (N : Int)) := ⟨mm % 16 + 1, Lib.hid (by omega)⟩
  have hN1 : 0 < N := by have := hN.out; omega
  have hN2 : N ≤ 16 := by have := hN.out; omega
  have hn9 := hsc.rd.2.1
  have HS := Lib.hid hsc
  have HL := Lib.hid hsc.len
  have HA := Lib.hid (awake_any w)
  have hmk := @run_makeMap Try.prog
  obtain ⟨gr, hgr⟩ : ∃ gr, Hid (greatN ops = gr) := ⟨_, Lib.hid rfl⟩
  have HG : Hid (∀ w1, Below w.heap.size w w1 → Calls Try.prog 20 #[.slice A n c] w1 fun e w' => e = .returned (.bool gr) ∧ Below w1.heap.size w1 w') := Lib.hid fun w1 hb => by
    rw [← hgr.out]; exact great_many A n c ops w1 (hsc.below hb)
  clear hsc
  go_enter Try.func4, Try.ntmps4
  go_wp2_with fail
  refine HA.out.mono ?_
  rintro e w1 ⟨rfl, hb1⟩
  have HNW := Lib.hid (np_new w w1 hb1 N hN1 hN2)
  clear hb1
  go_wp2_with (rw [hN.out])
  refine HNW.out.mono ?_
  rintro e w2 ⟨b, mb, rfl, hc2, -, -⟩
  have HG2 := Lib.hid (HG.out w2 hc2.bel)
  have HC2 := Lib.hid hc2
  clear hc2
  go_wp2_with fail
  refine HG2.out.mono ?_
  rintro e w3 ⟨rfl, hb3⟩
  have hc3 := HC2.out.below hb3
  cases gr with
  | true =>
    have HB3 := Lib.hid hc3.bel
    clear hb3 hc3
    go_wp2
    go_ret
    exact ⟨rfl, HB3.out⟩
  | false =>
    obtain ⟨cb, hcb⟩ : ∃ cb, Hid (w3.heap.size = cb) := ⟨_, Lib.hid rfl⟩
    obtain ⟨W3, hW3⟩ : ∃ W3, Hid (w3.alloc (.map #[] 0) = W3) := ⟨_, Lib.hid rfl⟩
    have hgd : Hid (n ≤ 80 ∧ sumN ops ≤ 400) := Lib.hid (by
      have := hgr.out
      simp only [greatN, Bool.or_eq_false_iff, decide_eq_false_iff_not] at this
      rw [HL.out] at this
      omega)
    have hcw : Hid (w.heap.size ≤ cb) := Lib.hid (by rw [← hcb.out]; exact hc3.bel.size)
    have HON : Hid (OnL w W3 b mb cb N 0 0 []) := Lib.hid (by
      have h1 := hc3.alloc (.map #[] 0)
      rw [hW3.out, hcb.out] at h1
      have h2 : PkM W3 cb 0 (fun _ => 0) := by
        have := pkm_made w3
        rw [hW3.out, hcb.out] at this
        exact this
      obtain ⟨M, hM, hcn⟩ := cntd_of h2
      have : M = .map #[] 0 := by
        have := (h1.pr (cb, .map #[] 0) (by simp)).1
        rw [hM] at this
        exact Option.some.inj this
      subst this
      exact ⟨0, _, 0, _, _, h1, Nat.le_refl _, hcn, Nat.le_refl _, CI.zero, by simp⟩)
    clear hb3 hc3
    go_wp2
    rw [hW3.out, hcb.out]
    go_loopw [38] (fun i wr => ∃ (k : Nat) (Ls : List Pkt), k ≤ n ∧ i = .int .i64 k ∧ Hid (OnL w wr b mb cb N (sumN (ops.take k) + k) k Ls) ∧ Ls.length ≤ 256) (fun i _ => n - (intOf i).toNat)
    case atStart => exact ⟨0, [], by omega, rfl, Lib.hid (by simpa [sumN] using HON.out), by simp⟩
    case round =>
      obtain ⟨k, Ls, hkn, rfl, hon, hL256⟩ := hrel
      by_cases hlt : k < n
      · have hkl : k < ops.length := by have := HL.out; omega
        obtain ⟨o, ho⟩ : ∃ o, Hid (ops[k] = o) := ⟨_, Lib.hid rfl⟩
        obtain ⟨nn, f, m, g, M, hnp, hnn, hcn, hmB, hci, hgl⟩ := hon.out
        have HGL := Lib.hid hgl
        have hsw := HS.out.below hnp.bel
        obtain ⟨ab, ff, hA, c0, c1, c2, c3⟩ := hsw.at k hlt hkl o ho.out
        have hls := Lib.hid (HS.out.ls o (by rw [← ho.out]; exact List.getElem_mem _))
        subst hA
        obtain ⟨ob, hob⟩ : ∃ ob, Hid (wr.heap.size = ob) := ⟨_, Lib.hid rfl⟩
        obtain ⟨W, hW⟩ : ∃ W, Hid (wr.alloc (opO o) = W) := ⟨_, Lib.hid rfl⟩
        obtain ⟨p, HO⟩ : ∃ p, Hid (p = o) := ⟨_, Lib.hid rfl⟩
        have hob0 : Hid (w.heap.size ≤ ob ∧ cb ≠ ob) := Lib.hid (by
          have h1 := hnp.bel.size
          have h2 := (Array.getElem?_eq_some_iff.1 (hnp.pr (cb, M) (by simp)).1).1
          have := hob.out
          omega)
        have hB : Hid (sumN (ops.take k) + k ≤ 500 ∧ sumN (ops.take (k + 1)) = sumN (ops.take k) + o.L.n ∧ sumN (ops.take (k + 1)) ≤ 400) := Lib.hid (by
          have h1 := sumN_le ops k
          have h2 := sumN_le ops (k + 1)
          have h3 := sumN_take k hkl
          rw [ho.out] at h3
          have := hgd.out
          omega)
        obtain ⟨B, hBe⟩ : ∃ B, Hid (sumN (ops.take k) + k = B) := ⟨_, Lib.hid rfl⟩
        rw [hBe.out] at hmB hci
        have HNP : Hid (NP w W [(cb, M), (ob, opO p)] b mb N nn f Ls) := Lib.hid (by
          have := hnp.alloc (opO o)
          rw [hW.out, hob.out] at this
          rw [HO.out]
          exact this.sub (by simp))
        have HCN := Lib.hid (And.intro hcn (And.intro hmB hci))
        clear hsw hnp ho hon hcn hmB hci hgl
        obtain ⟨ok, oa, oB, ⟨LA, Ln, Lc, Lxs⟩⟩ := o
        dsimp only at c0 c1 c2 c3 hls hB
        unfold opO at hW
        dsimp only at hW
        go_upto_block 2 with (fail)
        rw [hW.out, hob.out]
        clear c0 c1 c2 c3
        go_cut [44] (fun s44 wx => ∃ Ls' : List Pkt, Hid (OnL w wx b mb cb N (sumN (ops.take (k + 1)) + (k + 1)) (k + 1) Ls') ∧ Ls'.length ≤ 256)
        case first =>
          have HCE : Hid (∀ wx pr' f' nn' L', NP w wx pr' b mb N nn' f' L' → (ob, opO p) ∈ pr' → wx.cell? ⟨ob, 0, none⟩ = some (.int .i64 ok) ∧ wx.cell? ⟨ob, 1, none⟩ = some (.int .i64 oa) ∧ wx.cell? ⟨ob, 2, none⟩ = some (.int .i64 oB) ∧ wx.cell? ⟨ob, 3, none⟩ = some (.slice LA Ln Lc)) := Lib.hid fun wx pr' f' nn' L' h hm => by
            have := op_cells (h.pr (ob, opO p) hm).1
            rw [HO.out] at this
            exact this
          obtain ⟨c0, c1, c2, c3⟩ := HCE.out _ _ _ _ _ HNP.out (by simp)
          have HFIN : Hid (∀ wx nn' f' m' g' M' L', NP w wx [(cb, M'), (ob, opO p)] b mb N nn' f' L' → nn' ≤ nn + 1 → Cntd cb M' m' g' → m' ≤ B + 1 → CI g' L' (B + 1) → L'.length ≤ 256 → (∀ y ∈ L', goodP y) → ∃ Ls' : List Pkt, Hid (OnL w wx b mb cb N (sumN (ops.take (k + 1)) + (k + 1)) (k + 1) Ls') ∧ Ls'.length ≤ 256) := Lib.hid fun wx nn' f' m' g' M' L' h1 h2 h3 h4 h5 h6 h9 => by
            have h7 := hB.out
            have h8 := hBe.out
            exact ⟨L', Lib.hid ⟨nn', f', m', g', M', h1.sub (by simp), by omega, h3, by omega, h5.mono (by omega), h9⟩, h6⟩
          by_cases k0 : ok = 0
          · have e0 : (ok == 0) = true := by simpa using k0
            have hLl : Hid (Lxs.length = Ln) := Lib.hid (by have := hls.out.1.1; simpa using this)
            have HLE := Lib.hid (np_len HNP.out)
            have HSE := Lib.hid (np_send HNP.out hL256 LA Ln Lc Lxs (hls.out.1.below (by
              have h1 := HNP.out.bel
              exact h1)) hls.out.2.1 hls.out.2.2.2.1)
            have HSUM := Lib.hid (And.intro (sendL_len N f Lxs Ls) (sendL_lost N f Lxs Ls))
            have HCI2 : Hid (∀ g', (∀ y, g' y = g y + occ y Lxs) → CI g' (sendL N f Lxs Ls).1 (B + Ln)) := Lib.hid fun g' hg' => HCN.out.2.2.sent hLl.out hg'
            have HGD2 : Hid (∀ y ∈ (sendL N f Lxs Ls).1, goodP y) := Lib.hid fun y hy => (sendL_mem N f y Lxs Ls hy).elim (HGL.out y) (hls.out.2.1 y)
            obtain ⟨L2, hL2⟩ : ∃ L2, (sendL N f Lxs Ls).1 = L2 := ⟨_, rfl⟩
            rw [hL2] at HGD2
            obtain ⟨lost, hlo⟩ : ∃ lost, (sendL N f Lxs Ls).2 = lost := ⟨_, rfl⟩
            obtain ⟨ln, hln⟩ : ∃ ln, Ls.length = ln := ⟨_, rfl⟩
            rw [hL2, hlo] at HSE
            rw [hL2] at HCI2
            rw [hL2, hlo, hln, hLl.out] at HSUM
            rw [hln] at HLE
            obtain ⟨ln2, hln2⟩ : ∃ ln2, L2.length = ln2 := ⟨_, rfl⟩
            have HLN2 := Lib.hid hln2
            rw [hln2] at HSUM
            have hlnb : ln ≤ 256 := by omega
            have hLn4 : Ln ≤ 400 := by have := hB.out; omega
            clear k0 hL2 hlo hln hln2
            go_wp2_with fail
            refine HLE.out.mono ?_
            rintro e w5 ⟨rfl, rfl⟩
            go_wp2_with fail
            refine HSE.out.mono ?_
            rintro e w6 ⟨rfl, hn6, hl6⟩
            have HN6 := Lib.hid hn6
            have HL6 := Lib.hid hl6
            clear c0 c1 c2 c3
            obtain ⟨c0, c1, c2, c3⟩ := HCE.out _ _ _ _ _ hn6 (by simp)
            clear hn6 hl6
            have hsum := HSUM.out
            have hd1 : decide ((lost : Int) < 0) = false := by simp
            have hd2 : decide ((Ln : Int) < (lost : Int)) = false := by simp; omega
            have hw1 : IntKind.i64.wrap ((ln : Int) + (Ln : Int)) = (ln : Int) + (Ln : Int) := by rw [IntKind.wrap_i64]; omega
            have hw2 : IntKind.i64.wrap ((ln : Int) + (Ln : Int) - (lost : Int)) = (ln2 : Int) := by rw [IntKind.wrap_i64]; omega
            have hw3 : (ln : Int) + (Ln : Int) - (lost : Int) = (ln2 : Int) := by omega
            clear hsum
            go_wp2_with fail
            have hlq := np_len HN6.out
            rw [HLN2.out] at hlq
            have HLQ : Hid (∀ W, Below w6.heap.size w6 W → Calls Try.prog 18 #[.pointer (some ⟨b, 0, none⟩)] W fun e w' => e = .returned (.int .i64 (ln2 : Int)) ∧ W = w') := Lib.hid fun W hb => by
              have := np_len (HN6.out.below hb)
              rw [HLN2.out] at this
              exact this
            have HC36 := Lib.hid c3
            have HD1 := Lib.hid hd1
            have HD2 := Lib.hid hd2
            have HLO : Hid (lost ≤ Ln) := Lib.hid (by have := HSUM.out; omega)
            have HW1 := Lib.hid hw1
            have HW2 := Lib.hid hw2
            have hS0 : Below w6.heap.size w6 w6.drew := below_drewN 1 w6
            clear hd1 hd2 hw1 hw2 hw3 hlq c0 c1 c2 c3
            refine wp_region_one (fun W' => Below w6.heap.size w6 W') (fun u v => Below u.heap.size u v) (fun a i => match i with
                | 0 => (fun v _ => v = .int .i64 (lost : Int))
                | 1 => (fun v _ => v = .bool false)
                | 2 => (fun v _ => v = .bool false)
                | 3 => (fun v _ => v = .int .i64 (lost : Int))
                | 4 => (fun v _ => v = .pointer (some ⟨ob, 3, none⟩))
                | 5 => (fun v _ => v = .slice LA Ln Lc)
                | 6 => (fun v _ => v = .int .i64 (Ln : Int))
                | 7 => (fun v _ => v = .bool false)
                | 8 => (fun v _ => v = .bool false)
                | 9 => (fun v _ => v = .bool false)
                | 10 => (fun v _ => v = .pointer (some ⟨b, 0, none⟩))
                | 11 => (fun v _ => v = .int .i64 (ln2 : Int))
                | 12 => (fun v _ => v = .int .i64 (ln : Int))
                | 13 => (fun v _ => v = .pointer (some ⟨ob, 3, none⟩))
                | 14 => (fun v _ => v = .slice LA Ln Lc)
                | 15 => (fun v _ => v = .int .i64 (Ln : Int))
                | 16 => (fun v _ => v = .int .i64 ((ln : Int) + (Ln : Int)))
                | 17 => (fun v _ => v = .int .i64 (lost : Int))
                | 18 => (fun v _ => v = .int .i64 (ln2 : Int))
                | 19 => (fun v _ => v = .bool false)
                | 20 => (fun v _ => v = .bool false)
                | _ => (fun _ _ => True)) #[0, 1, 3, 7, 7, 23, 55, 127, 255, 511, 1023, 2047, 1023, 1023, 9215, 25599, 62463, 1023, 259071, 524287, 1048575] #[0, 1, 2, 4, 4, 20, 36, 76, 132, 256, 512, 1536, 512, 512, 8704, 16896, 37376, 512, 197120, 264704, 524800] 2097151 (by kernel_rfl) 21 rfl (fun m hm => by subst hm; kernel_rfl) (by kernel_rfl) (fun w => Below.refl _ w) (fun u v w h1 h2 => below2 h1 h2) ?_ (hS0) ?_ ?_
            · intro i hi
              rcases (by omega : i = 0 ∨ i = 1 ∨ i = 2 ∨ i = 3 ∨ i = 4 ∨ i = 5 ∨ i = 6 ∨ i = 7 ∨ i = 8 ∨ i = 9 ∨ i = 10 ∨ i = 11 ∨ i = 12 ∨ i = 13 ∨ i = 14 ∨ i = 15 ∨ i = 16 ∨ i = 17 ∨ i = 18 ∨ i = 19 ∨ i = 20) with rfl | rfl | rfl | rfl | rfl | rfl | rfl | rfl | rfl | rfl | rfl | rfl | rfl | rfl | rfl | rfl | rfl | rfl | rfl | rfl | rfl
              · exact fun v w w' h hr => by exact h
              · exact fun v w w' h hr => by exact h
              · exact fun v w w' h hr => by exact h
              · exact fun v w w' h hr => by exact h
              · exact fun v w w' h hr => by exact h
              · exact fun v w w' h hr => by exact h
              · exact fun v w w' h hr => by exact h
              · exact fun v w w' h hr => by exact h
              · exact fun v w w' h hr => by exact h
              · exact fun v w w' h hr => by exact h
              · exact fun v w w' h hr => by exact h
              · exact fun v w w' h hr => by exact h
              · exact fun v w w' h hr => by exact h
              · exact fun v w w' h hr => by exact h
              · exact fun v w w' h hr => by exact h
              · exact fun v w w' h hr => by exact h
              · exact fun v w w' h hr => by exact h
              · exact fun v w w' h hr => by exact h
              · exact fun v w w' h hr => by exact h
              · exact fun v w w' h hr => by exact h
              · exact fun v w w' h hr => by exact h
            · intro i hi
              rcases (by omega : i = 0 ∨ i = 1 ∨ i = 2 ∨ i = 3 ∨ i = 4 ∨ i = 5 ∨ i = 6 ∨ i = 7 ∨ i = 8 ∨ i = 9 ∨ i = 10 ∨ i = 11 ∨ i = 12 ∨ i = 13 ∨ i = 14 ∨ i = 15 ∨ i = 16 ∨ i = 17 ∨ i = 18 ∨ i = 19 ∨ i = 20) with rfl | rfl | rfl | rfl | rfl | rfl | rfl | rfl | rfl | rfl | rfl | rfl | rfl | rfl | rfl | rfl | rfl | rfl | rfl | rfl | rfl
              · -- 0: Op.move (Operand.tmp 11)
                intro l hl vs W hS hR hp
                obtain rfl : l = [] := hl.symm.trans (by kernel_rfl)
                clear hp hl
                refine opgoal (_) (some 52) rfl rfl fun K hK => ?_
                refine Runs.mk ?_
                simp only [putAll]
                go_simp
                refine hK _ _ ?_ hS ((fun w => Below.refl _ w) W) _ rfl rfl
                first | rfl | go_simp | simp
              · -- 1: Op.binOp BinOp.lss 3 (Operand.tmp 52) (Operand.const (Value.int IntKind.i64 0)) 3
                intro l hl vs W hS hR hp
                obtain rfl : l = [(0, 52)] := hl.symm.trans (by kernel_rfl)
                have p0 : vs 0 = _ := hp 0 (by decide) (by decide)
                clear hp hl
                refine opgoal (_) (some 53) rfl rfl fun K hK => ?_
                have hd := HD1.out
                refine Runs.mk ?_
                simp only [putAll]
                go_simp
                refine hK _ _ ?_ hS ((fun w => Below.refl _ w) W) _ rfl rfl
                first | rfl | go_simp | simp
              · -- 2: Op.move (Operand.tmp 53)
                intro l hl vs W hS hR hp
                obtain rfl : l = [(0, 52), (1, 53)] := hl.symm.trans (by kernel_rfl)
                have p1 : vs 1 = _ := hp 1 (by decide) (by decide)
                clear hp hl
                refine opgoal (_) (some 54) rfl rfl fun K hK => ?_
                refine Runs.mk ?_
                simp only [putAll]
                go_simp
                refine hK _ _ ?_ hS ((fun w => Below.refl _ w) W) _ rfl rfl
                first | rfl | go_simp | simp
              · -- 3: Op.move (Operand.tmp 11)  [(2, 'false')]
                intro l hl vs W hS hR hp
                obtain rfl : l = [(0, 52), (1, 53), (2, 54)] := hl.symm.trans (by kernel_rfl)
                have p2 : vs 2 = _ := hp 2 (by decide) (by decide)
                clear hp hl
                refine opgoal (_) (some 55) rfl rfl fun K hK => ?_
                refine Runs.mk ?_
                simp only [putAll]
                go_simp
                refine hK _ _ ?_ hS ((fun w => Below.refl _ w) W) _ rfl rfl
                first | rfl | go_simp | simp
              · -- 4: Op.fieldAddr 39 (Operand.tmp 9) 3  [(2, 'false')]
                intro l hl vs W hS hR hp
                obtain rfl : l = [(0, 52), (1, 53), (2, 54)] := hl.symm.trans (by kernel_rfl)
                have p2 : vs 2 = _ := hp 2 (by decide) (by decide)
                clear hp hl
                refine opgoal (_) (some 56) rfl rfl fun K hK => ?_
                refine Runs.mk ?_
                simp only [putAll]
                go_simp
                refine hK _ _ ?_ hS ((fun w => Below.refl _ w) W) _ rfl rfl
                first | rfl | go_simp | simp
              · -- 5: Op.load 22 (Operand.tmp 56)  [(2, 'false')]
                intro l hl vs W hS hR hp
                obtain rfl : l = [(0, 52), (1, 53), (2, 54), (4, 56)] := hl.symm.trans (by kernel_rfl)
                have p2 : vs 2 = _ := hp 2 (by decide) (by decide)
                have p4 : vs 4 = _ := hp 4 (by decide) (by decide)
                clear hp hl
                refine opgoal (_) (some 57) rfl rfl fun K hK => ?_
                have q3 := cell_below hS HC36.out
                refine Runs.mk ?_
                simp only [putAll]
                go_simp
                refine hK _ _ ?_ hS ((fun w => Below.refl _ w) W) _ rfl rfl
                first | rfl | go_simp | simp
              · -- 6: Op.call { callee := Callee.builtin Builtin.len, args := #[Operand.tmp 57], argTypes := #[22] }  [(2, 'false')]
                intro l hl vs W hS hR hp
                obtain rfl : l = [(0, 52), (1, 53), (2, 54), (4, 56), (5, 57)] := hl.symm.trans (by kernel_rfl)
                have p2 : vs 2 = _ := hp 2 (by decide) (by decide)
                have p5 : vs 5 = _ := hp 5 (by decide) (by decide)
                clear hp hl
                refine opgoal (_) (some 58) rfl rfl fun K hK => ?_
                refine Runs.mk ?_
                simp only [putAll]
                go_simp
                refine hK _ _ ?_ hS ((fun w => Below.refl _ w) W) _ rfl rfl
                first | rfl | go_simp | simp
              · -- 7: Op.binOp BinOp.gtr 3 (Operand.tmp 55) (Operand.tmp 58) 3  [(2, 'false')]
                intro l hl vs W hS hR hp
                obtain rfl : l = [(0, 52), (1, 53), (2, 54), (3, 55), (4, 56), (5, 57), (6, 58)] := hl.symm.trans (by kernel_rfl)
                have p2 : vs 2 = _ := hp 2 (by decide) (by decide)
                have p3 : vs 3 = _ := hp 3 (by decide) (by decide)
                have p6 : vs 6 = _ := hp 6 (by decide) (by decide)
                clear hp hl
                refine opgoal (_) (some 59) rfl rfl fun K hK => ?_
                have hd := HLO.out
                refine Runs.mk ?_
                simp only [putAll]
                go_simp
                refine hK _ _ ?_ hS (Below.refl _ _) _ rfl rfl
                first | rfl | (simp; omega)
              · -- 8: Op.pick (Operand.tmp 54) (Operand.const (Value.bool true)) (Operand.tmp 59)
                intro l hl vs W hS hR hp
                obtain rfl : l = [(0, 52), (1, 53), (2, 54), (3, 55), (4, 56), (5, 57), (6, 58), (7, 59)] := hl.symm.trans (by kernel_rfl)
                have p2 : vs 2 = _ := hp 2 (by decide) (by decide)
                have p7 : vs 7 = _ := hp 7 (by decide) (by decide)
                clear hp hl
                refine opgoal (_) (some 60) rfl rfl fun K hK => ?_
                refine Runs.mk ?_
                simp only [putAll]
                go_simp
                refine hK _ _ ?_ hS ((fun w => Below.refl _ w) W) _ rfl rfl
                first | rfl | go_simp | simp
              · -- 9: Op.move (Operand.tmp 60)
                intro l hl vs W hS hR hp
                obtain rfl : l = [(0, 52), (1, 53), (2, 54), (3, 55), (4, 56), (5, 57), (6, 58), (7, 59), (8, 60)] := hl.symm.trans (by kernel_rfl)
                have p8 : vs 8 = _ := hp 8 (by decide) (by decide)
                clear hp hl
                refine opgoal (_) (some 61) rfl rfl fun K hK => ?_
                refine Runs.mk ?_
                simp only [putAll]
                go_simp
                refine hK _ _ ?_ hS ((fun w => Below.refl _ w) W) _ rfl rfl
                first | rfl | go_simp | simp
              · -- 10: Op.move (Operand.tmp 5)  [(9, 'false')]
                intro l hl vs W hS hR hp
                obtain rfl : l = [(0, 52), (1, 53), (2, 54), (3, 55), (4, 56), (5, 57), (6, 58), (7, 59), (8, 60), (9, 61)] := hl.symm.trans (by kernel_rfl)
                have p9 : vs 9 = _ := hp 9 (by decide) (by decide)
                clear hp hl
                refine opgoal (_) (some 62) rfl rfl fun K hK => ?_
                refine Runs.mk ?_
                simp only [putAll]
                go_simp
                refine hK _ _ ?_ hS ((fun w => Below.refl _ w) W) _ rfl rfl
                first | rfl | go_simp | simp
              · -- 11: Op.call { callee := Callee.value (Operand.func 18), args := #[Operand.tmp 62], argTypes := #[24] }  [(9, 'false')]
                intro l hl vs W hS hR hp
                obtain rfl : l = [(0, 52), (1, 53), (2, 54), (3, 55), (4, 56), (5, 57), (6, 58), (7, 59), (8, 60), (9, 61), (10, 62)] := hl.symm.trans (by kernel_rfl)
                have p9 : vs 9 = _ := hp 9 (by decide) (by decide)
                have p10 : vs 10 = _ := hp 10 (by decide) (by decide)
                clear hp hl
                refine opgoal (_) (some 63) rfl rfl fun K hK => ?_
                refine Runs.mk ?_
                simp only [putAll]
                go_simp
                refine (HLQ.out W hS).mono ?_
                rintro e w' ⟨rfl, rfl⟩
                go_simp
                exact hK _ _ rfl hS (Below.refl _ _) _ rfl rfl
              · -- 12: Op.move (Operand.tmp 10)  [(9, 'false')]
                intro l hl vs W hS hR hp
                obtain rfl : l = [(0, 52), (1, 53), (2, 54), (3, 55), (4, 56), (5, 57), (6, 58), (7, 59), (8, 60), (9, 61)] := hl.symm.trans (by kernel_rfl)
                have p9 : vs 9 = _ := hp 9 (by decide) (by decide)
                clear hp hl
                refine opgoal (_) (some 64) rfl rfl fun K hK => ?_
                refine Runs.mk ?_
                simp only [putAll]
                go_simp
                refine hK _ _ ?_ hS ((fun w => Below.refl _ w) W) _ rfl rfl
                first | rfl | go_simp | simp
              · -- 13: Op.fieldAddr 39 (Operand.tmp 9) 3  [(9, 'false')]
                intro l hl vs W hS hR hp
                obtain rfl : l = [(0, 52), (1, 53), (2, 54), (3, 55), (4, 56), (5, 57), (6, 58), (7, 59), (8, 60), (9, 61)] := hl.symm.trans (by kernel_rfl)
                have p9 : vs 9 = _ := hp 9 (by decide) (by decide)
                clear hp hl
                refine opgoal (_) (some 65) rfl rfl fun K hK => ?_
                refine Runs.mk ?_
                simp only [putAll]
                go_simp
                refine hK _ _ ?_ hS ((fun w => Below.refl _ w) W) _ rfl rfl
                first | rfl | go_simp | simp
              · -- 14: Op.load 22 (Operand.tmp 65)  [(9, 'false')]
                intro l hl vs W hS hR hp
                obtain rfl : l = [(0, 52), (1, 53), (2, 54), (3, 55), (4, 56), (5, 57), (6, 58), (7, 59), (8, 60), (9, 61), (13, 65)] := hl.symm.trans (by kernel_rfl)
                have p9 : vs 9 = _ := hp 9 (by decide) (by decide)
                have p13 : vs 13 = _ := hp 13 (by decide) (by decide)
                clear hp hl
                refine opgoal (_) (some 66) rfl rfl fun K hK => ?_
                have q3 := cell_below hS HC36.out
                refine Runs.mk ?_
                simp only [putAll]
                go_simp
                refine hK _ _ ?_ hS ((fun w => Below.refl _ w) W) _ rfl rfl
                first | rfl | go_simp | simp
              · -- 15: Op.call { callee := Callee.builtin Builtin.len, args := #[Operand.tmp 66], argTypes := #[22] }  [(9, 'false')]
                intro l hl vs W hS hR hp
                obtain rfl : l = [(0, 52), (1, 53), (2, 54), (3, 55), (4, 56), (5, 57), (6, 58), (7, 59), (8, 60), (9, 61), (13, 65), (14, 66)] := hl.symm.trans (by kernel_rfl)
                have p9 : vs 9 = _ := hp 9 (by decide) (by decide)
                have p14 : vs 14 = _ := hp 14 (by decide) (by decide)
                clear hp hl
                refine opgoal (_) (some 67) rfl rfl fun K hK => ?_
                refine Runs.mk ?_
                simp only [putAll]
                go_simp
                refine hK _ _ ?_ hS ((fun w => Below.refl _ w) W) _ rfl rfl
                first | rfl | go_simp | simp
              · -- 16: Op.binOp BinOp.add 3 (Operand.tmp 64) (Operand.tmp 67) 3  [(9, 'false')]
                intro l hl vs W hS hR hp
                obtain rfl : l = [(0, 52), (1, 53), (2, 54), (3, 55), (4, 56), (5, 57), (6, 58), (7, 59), (8, 60), (9, 61), (12, 64), (13, 65), (14, 66), (15, 67)] := hl.symm.trans (by kernel_rfl)
                have p9 : vs 9 = _ := hp 9 (by decide) (by decide)
                have p12 : vs 12 = _ := hp 12 (by decide) (by decide)
                have p15 : vs 15 = _ := hp 15 (by decide) (by decide)
                clear hp hl
                refine opgoal (_) (some 68) rfl rfl fun K hK => ?_
                have hw := HW1.out
                refine Runs.mk ?_
                simp only [putAll]
                go_simp
                refine hK _ _ ?_ hS (Below.refl _ _) _ rfl rfl
                first | rfl | (rw [hw]) | (simp only [IntKind.wrap_i64] at hw; rw [hw])
              · -- 17: Op.move (Operand.tmp 11)  [(9, 'false')]
                intro l hl vs W hS hR hp
                obtain rfl : l = [(0, 52), (1, 53), (2, 54), (3, 55), (4, 56), (5, 57), (6, 58), (7, 59), (8, 60), (9, 61)] := hl.symm.trans (by kernel_rfl)
                have p9 : vs 9 = _ := hp 9 (by decide) (by decide)
                clear hp hl
                refine opgoal (_) (some 69) rfl rfl fun K hK => ?_
                refine Runs.mk ?_
                simp only [putAll]
                go_simp
                refine hK _ _ ?_ hS ((fun w => Below.refl _ w) W) _ rfl rfl
                first | rfl | go_simp | simp
              · -- 18: Op.binOp BinOp.sub 3 (Operand.tmp 68) (Operand.tmp 69) 3  [(9, 'false')]
                intro l hl vs W hS hR hp
                obtain rfl : l = [(0, 52), (1, 53), (2, 54), (3, 55), (4, 56), (5, 57), (6, 58), (7, 59), (8, 60), (9, 61), (12, 64), (13, 65), (14, 66), (15, 67), (16, 68), (17, 69)] := hl.symm.trans (by kernel_rfl)
                have p9 : vs 9 = _ := hp 9 (by decide) (by decide)
                have p16 : vs 16 = _ := hp 16 (by decide) (by decide)
                have p17 : vs 17 = _ := hp 17 (by decide) (by decide)
                clear hp hl
                refine opgoal (_) (some 70) rfl rfl fun K hK => ?_
                have hw := HW2.out
                refine Runs.mk ?_
                simp only [putAll]
                go_simp
                refine hK _ _ ?_ hS (Below.refl _ _) _ rfl rfl
                first | rfl | (rw [hw]) | (simp only [IntKind.wrap_i64] at hw; rw [hw])
              · -- 19: Op.binOp BinOp.neq 3 (Operand.tmp 63) (Operand.tmp 70) 3  [(9, 'false')]
                intro l hl vs W hS hR hp
                obtain rfl : l = [(0, 52), (1, 53), (2, 54), (3, 55), (4, 56), (5, 57), (6, 58), (7, 59), (8, 60), (9, 61), (10, 62), (11, 63), (12, 64), (13, 65), (14, 66), (15, 67), (16, 68), (17, 69), (18, 70)] := hl.symm.trans (by kernel_rfl)
                have p9 : vs 9 = _ := hp 9 (by decide) (by decide)
                have p11 : vs 11 = _ := hp 11 (by decide) (by decide)
                have p18 : vs 18 = _ := hp 18 (by decide) (by decide)
                clear hp hl
                refine opgoal (_) (some 71) rfl rfl fun K hK => ?_
                refine Runs.mk ?_
                simp only [putAll]
                go_simp
                refine hK _ _ ?_ hS ((fun w => Below.refl _ w) W) _ rfl rfl
                first | rfl | go_simp | simp
              · -- 20: Op.pick (Operand.tmp 61) (Operand.const (Value.bool true)) (Operand.tmp 71)
                intro l hl vs W hS hR hp
                obtain rfl : l = [(0, 52), (1, 53), (2, 54), (3, 55), (4, 56), (5, 57), (6, 58), (7, 59), (8, 60), (9, 61), (10, 62), (11, 63), (12, 64), (13, 65), (14, 66), (15, 67), (16, 68), (17, 69), (18, 70), (19, 71)] := hl.symm.trans (by kernel_rfl)
                have p9 : vs 9 = _ := hp 9 (by decide) (by decide)
                have p19 : vs 19 = _ := hp 19 (by decide) (by decide)
                clear hp hl
                refine opgoal (_) (some 72) rfl rfl fun K hK => ?_
                refine Runs.mk ?_
                simp only [putAll]
                go_simp
                refine hK _ _ ?_ hS ((fun w => Below.refl _ w) W) _ rfl rfl
                first | rfl | go_simp | simp
            · intro l hl vs W hS hR hp
              obtain rfl : l = [(0, 52), (1, 53), (2, 54), (3, 55), (4, 56), (5, 57), (6, 58), (7, 59), (8, 60), (9, 61), (10, 62), (11, 63), (12, 64), (13, 65), (14, 66), (15, 67), (16, 68), (17, 69), (18, 70), (19, 71), (20, 72)] := hl.symm.trans (by kernel_rfl)
              have p0 : vs 0 = _ := hp 0 (by decide) (by decide)
              have p1 : vs 1 = _ := hp 1 (by decide) (by decide)
              have p2 : vs 2 = _ := hp 2 (by decide) (by decide)
              have p3 : vs 3 = _ := hp 3 (by decide) (by decide)
              have p4 : vs 4 = _ := hp 4 (by decide) (by decide)
              have p5 : vs 5 = _ := hp 5 (by decide) (by decide)
              have p6 : vs 6 = _ := hp 6 (by decide) (by decide)
              have p7 : vs 7 = _ := hp 7 (by decide) (by decide)
              have p8 : vs 8 = _ := hp 8 (by decide) (by decide)
              have p9 : vs 9 = _ := hp 9 (by decide) (by decide)
              have p10 : vs 10 = _ := hp 10 (by decide) (by decide)
              have p11 : vs 11 = _ := hp 11 (by decide) (by decide)
              have p12 : vs 12 = _ := hp 12 (by decide) (by decide)
              have p13 : vs 13 = _ := hp 13 (by decide) (by decide)
              have p14 : vs 14 = _ := hp 14 (by decide) (by decide)
              have p15 : vs 15 = _ := hp 15 (by decide) (by decide)
              have p16 : vs 16 = _ := hp 16 (by decide) (by decide)
              have p17 : vs 17 = _ := hp 17 (by decide) (by decide)
              have p18 : vs 18 = _ := hp 18 (by decide) (by decide)
              have p19 : vs 19 = _ := hp 19 (by decide) (by decide)
              have p20 : vs 20 = _ := hp 20 (by decide) (by decide)
              clear hp hl
              simp only [putAll_mk, setAll, List.setIfInBounds_toArray, List.set_cons_succ, List.set_cons_zero, p0, p1, p2, p3, p4, p5, p6, p7, p8, p9, p10, p11, p12, p13, p14, p15, p16, p17, p18, p19, p20]
              obtain ⟨W7, HW7⟩ : ∃ W7, Hid (W = W7) := ⟨_, Lib.hid rfl⟩
              rw [HW7.out] at hS ⊢
              have HN7 := Lib.hid (HN6.out.below hS)
              clear hS hR hS0 HW7
              obtain ⟨c0, c1, c2, c3⟩ := HCE.out _ _ _ _ _ HN7.out (by simp)
              go_wp2_with fail
              clear c0 c1 c2 c3
              go_loopg [76] Ln (fun gk i wz => ∃ (j m' : Nat) (g' : Pkt → Int) (M' : Obj), gk = Ln - j ∧ j ≤ Ln ∧ i = .int .i64 j ∧ NP w wz [(cb, M'), (ob, opO p)] b mb N nn f L2 ∧ Hid (Cntd cb M' m' g' ∧ m' ≤ B + j ∧ ∀ y, g' y = g y + occ y (Lxs.take j)))
              case atStart => exact ⟨0, m, g, M, rfl, by omega, rfl, HN7.out, Lib.hid ⟨HCN.out.1, HCN.out.2.1, fun y => by simp [occ]⟩⟩
              case round =>
                obtain ⟨j, m', g', M', rfl, hj, rfl, hn7, HIN⟩ := hrel
                by_cases hlt2 : j < Ln
                · have hjl : j < Lxs.length := by have := hLl.out; omega
                  obtain ⟨⟨px, py, pS, pq⟩, hx⟩ : ∃ x : Pkt, Hid (Lxs[j] = x) := ⟨_, Lib.hid rfl⟩
                  have hgp := hls.out.2.1 ⟨px, py, pS, pq⟩ (by rw [← hx.out]; exact List.getElem_mem _)
                  obtain ⟨xb0, xo, hA, d0, d1, d2, d3⟩ := pkt_at (hls.out.1.below hn7.bel) j hlt2 hjl _ hx.out
                  subst hA
                  obtain ⟨xb, hxb⟩ : ∃ xb, Hid (wr.heap.size = xb) := ⟨_, Lib.hid rfl⟩
                  obtain ⟨W5, hW5⟩ : ∃ W5, Hid (wr.alloc (.cells #[.int .i64 px, .int .i64 py, .string pS, .bool pq] PT) = W5) := ⟨_, Lib.hid rfl⟩
                  have hal := hn7.alloc (.cells #[.int .i64 px, .int .i64 py, .string pS, .bool pq] PT)
                  rw [hW5.out, hxb.out] at hal
                  have hpx := hal.pr (xb, .cells #[.int .i64 px, .int .i64 py, .string pS, .bool pq] PT (0, 0)) (by simp)
                  have hpm := hal.pr (cb, M') (by simp)
                  have hxcb : xb ≠ cb := by
                    have h1 := (Array.getElem?_eq_some_iff.1 (hn7.pr (cb, M') (by simp)).1).1
                    have := hxb.out
                    dsimp only at h1
                    omega
                  have hgb : g' ⟨px, py, pS, pq⟩ ≤ 1000 ∧ 0 ≤ g' ⟨px, py, pS, pq⟩ := by
                    have h1 := HIN.out.2.2 ⟨px, py, pS, pq⟩
                    have h2 := occ_take ⟨px, py, pS, pq⟩ Lxs j
                    have h2' := occ_le ⟨px, py, pS, pq⟩ Lxs
                    have h3 := HCN.out.2.2 ⟨px, py, pS, pq⟩
                    have h4 := hB.out
                    have h5 := hBe.out
                    have h6 := hLl.out
                    omega
                  have hmlt : m' < 1000000 := by have := HIN.out.2.1; have := hB.out; have := hBe.out; omega
                  obtain ⟨st, V1, V2, M2, hT3, hV2, hcn2⟩ := cnt_turn (W := W5.drew) hpm.1 HIN.out.1 hmlt ⟨px, py, pS, pq⟩ hgp (g' ⟨px, py, pS, pq⟩ + 1) (Go.Proofs.Ytbdcgfdchkbcnaa.Ne.i64_wf (by omega))
                  have HREL : Hid (∃ (j2 m2 : Nat) (g2 : Pkt → Int) (M2 : Obj), Ln - (j + 1) = Ln - j2 ∧ j2 ≤ Ln ∧ Value.int .i64 ((j : Int) + 1) = .int .i64 j2 ∧ NP w V2 [(cb, M2), (ob, opO p)] b mb N nn f L2 ∧ Hid (Cntd cb M2 m2 g2 ∧ m2 ≤ B + j2 ∧ ∀ y, g2 y = g y + occ y (Lxs.take j2))) := Lib.hid (by
                    refine ⟨j + 1, m' + 1, _, M2, rfl, by omega, by simp, ?_, Lib.hid ⟨hcn2, by have := HIN.out.2.1; omega, fun y => ?_⟩⟩
                    · have h1 : NP w W5.drew ((cb, M') :: [(ob, opO p)]) b mb N nn f L2 := (hal.sub (by simp)).below (below_drewN 1 W5)
                      exact h1.turn hT3.k2 hV2 hcw.out (by intro q hq; simp at hq; subst hq; exact fun h => hob0.out.2 h.symm)
                    · have h1 := updC_val g' ⟨px, py, pS, pq⟩ y 1
                      rw [h1, HIN.out.2.2 y, occ_next y Lxs j hjl, hx.out]
                      omega)
                  obtain ⟨gp, hgpe⟩ : ∃ gp, g' ⟨px, py, pS, pq⟩ = gp := ⟨_, rfl⟩
                  rw [hgpe] at hT3 hgb
                  have HT3 := Lib.hid hT3
                  obtain ⟨gx, hgx⟩ : ∃ gx, gp + 1 = gx := ⟨_, rfl⟩
                  rw [hgx] at HT3
                  have HWR : Hid (IntKind.i64.wrap (gp + 1) = gx) := Lib.hid (by rw [IntKind.wrap_i64]; omega)
                  obtain ⟨V0, hV0⟩ : ∃ V0, Hid (W5.drew = V0) := ⟨_, Lib.hid rfl⟩
                  rw [hV0.out] at HT3
                  have hS0 : IsW V0 V1 V2 false false W5.drew := ⟨hV0.out⟩
                  have HPX : Hid (∀ W, Keep [cb] V0 W → W.cell? ⟨xb, 0, none⟩ = some (.int .i64 px) ∧ W.cell? ⟨xb, 1, none⟩ = some (.int .i64 py) ∧ W.cell? ⟨xb, 2, none⟩ = some (.string pS) ∧ W.cell? ⟨xb, 3, none⟩ = some (.bool pq)) := Lib.hid fun W hk => pk_cells (keep_block hk (by rw [← hV0.out]; exact hpx.1) (by simpa using hxcb))
                  clear hal hpx hpm hxcb hgb hmlt hT3 hV2 hcn2 hgp hx hgpe hgx hn7
                  go_wp2_with (rw [hW5.out, hxb.out])
                  refine wp_region_done (fun d => IsW V0 V1 V2 (d 4) (d 6)) (fun _ _ => True) (fun k u v => (k = 4 → (fun _ _ => True) u v) ∧ (k = 6 → (fun _ _ => True) u v) ∧ (¬ k = 4 → ¬ k = 6 → (fun _ _ => True) u v)) (fun a i => match i with
                      | 0 => (fun v _ => v = .map (some cb))
                      | 1 => (fun v _ => v = .agg #[.int .i64 px, .int .i64 py, .string pS, .bool pq])
                      | 2 => (fun v _ => v = .int .i64 gp)
                      | 3 => (fun v _ => v = .int .i64 gx)
                      | 4 => (fun v _ => v = .tuple #[.int .i64 gp, .int .i64 st])
                      | 5 => (fun v _ => v = .int .i64 st)
                      | 6 => (fun v W => True)
                      | _ => (fun _ _ => True)) #[0, 0, 3, 7, 3, 19, 63] #[0, 0, 3, 4, 3, 16, 41] 127 (by kernel_rfl) 7 rfl (fun m hm => by subst hm; kernel_rfl) (by kernel_rfl) (fun w => trivial) (fun u v w h1 h2 => trivial) ?_ ?_ (hS0) ?_ ?_
                  · intro k u v hk hr
                    by_cases hs4 : k = 4
                    · have h := hr.1 hs4; exact trivial
                    by_cases hs6 : k = 6
                    · have h := hr.2.1 hs6; exact trivial
                    have h := hr.2.2 hs4 hs6; exact trivial
                  · intro i hi
                    rcases (by omega : i = 0 ∨ i = 1 ∨ i = 2 ∨ i = 3 ∨ i = 4 ∨ i = 5 ∨ i = 6) with rfl | rfl | rfl | rfl | rfl | rfl | rfl
                    · intro k hk y hy hyt v w w' h hr
                      exact h
                    · intro k hk y hy hyt v w w' h hr
                      exact h
                    · intro k hk y hy hyt v w w' h hr
                      exact h
                    · intro k hk y hy hyt v w w' h hr
                      exact h
                    · intro k hk y hy hyt v w w' h hr
                      exact h
                    · intro k hk y hy hyt v w w' h hr
                      exact h
                    · intro k hk y hy hyt v w w' h hr
                      by_cases hs4 : k = 4
                      · have hr0 := hr.1 hs4
                        subst hs4
                        exact absurd (hy.trans hyt) (ne_true_of_eq_false (by kernel_rfl))
                      by_cases hs6 : k = 6
                      · have hr0 := hr.2.1 hs6
                        subst hs6
                        exact absurd (hy.trans hyt) (ne_true_of_eq_false (by kernel_rfl))
                      have hr := hr.2.2 hs4 hs6
                      exact trivial
                  · intro i hi
                    rcases (by omega : i = 0 ∨ i = 1 ∨ i = 2 ∨ i = 3 ∨ i = 4 ∨ i = 5 ∨ i = 6) with rfl | rfl | rfl | rfl | rfl | rfl | rfl
                    · -- 0: Op.move (Operand.tmp 7)
                      intro l hl vs W dn e1 e2 e3 hS hR hp
                      have f4 : dn 4 = false := e3 4 (by kernel_rfl)
                      have f6 : dn 6 = false := e3 6 (by kernel_rfl)
                      replace hS : (IsW V0 V1 V2 (dn 4) (dn 6)) W := hS
                      rw [f4, f6] at hS
                      have g4 : (dn 4 || ((0 : Nat) == 4)) = false := by rw [f4]; rfl
                      have g6 : (dn 6 || ((0 : Nat) == 6)) = false := by rw [f6]; rfl
                      refine OpGoal.imp (S1 := IsW V0 V1 V2 false false) (fun W' h => ?_) ?_
                      · show (IsW V0 V1 V2 (dn 4 || ((0 : Nat) == 4)) (dn 6 || ((0 : Nat) == 6))) W'
                        rw [g4, g6]
                        exact h
                      clear g4 g6 e1 e2 e3
                      obtain rfl : l = [] := hl.symm.trans (by kernel_rfl)
                      clear hp hl
                      refine opgoal (_) (some 80) rfl rfl fun K hK => ?_
                      refine Runs.mk ?_
                      simp only [putAll]
                      go_simp
                      refine hK _ _ ?_ hS ⟨fun h => absurd h (by decide), fun h => absurd h (by decide), fun h4 h6 => ((fun w => trivial) W)⟩ _ rfl rfl
                      first | rfl | go_simp | simp
                    · -- 1: Op.load 29 (Operand.tmp 13)
                      intro l hl vs W dn e1 e2 e3 hS hR hp
                      have f4 : dn 4 = false := e3 4 (by kernel_rfl)
                      have f6 : dn 6 = false := e3 6 (by kernel_rfl)
                      replace hS : (IsW V0 V1 V2 (dn 4) (dn 6)) W := hS
                      rw [f4, f6] at hS
                      have g4 : (dn 4 || ((1 : Nat) == 4)) = false := by rw [f4]; rfl
                      have g6 : (dn 6 || ((1 : Nat) == 6)) = false := by rw [f6]; rfl
                      refine OpGoal.imp (S1 := IsW V0 V1 V2 false false) (fun W' h => ?_) ?_
                      · show (IsW V0 V1 V2 (dn 4 || ((1 : Nat) == 4)) (dn 6 || ((1 : Nat) == 6))) W'
                        rw [g4, g6]
                        exact h
                      clear g4 g6 e1 e2 e3
                      obtain rfl : l = [] := hl.symm.trans (by kernel_rfl)
                      clear hp hl
                      refine opgoal (_) (some 81) rfl rfl fun K hK => ?_
                      obtain ⟨q0, q1, q2, q3⟩ := HPX.out W (HT3.out.keep hS)
                      refine Runs.mk ?_
                      simp only [putAll]
                      go_simp
                      refine hK _ _ ?_ hS ⟨fun h => absurd h (by decide), fun h => absurd h (by decide), fun h4 h6 => ((fun w => trivial) W)⟩ _ rfl rfl
                      first | rfl | go_simp | simp
                    · -- 2: Op.lookup 37 (Operand.tmp 80) (Operand.tmp 81) false
                      intro l hl vs W dn e1 e2 e3 hS hR hp
                      have f4 : dn 4 = dn 4 := rfl
                      have f6 : dn 6 = false := e3 6 (by kernel_rfl)
                      replace hS : (IsW V0 V1 V2 (dn 4) (dn 6)) W := hS
                      rw [f6] at hS
                      have g4 : (dn 4 || ((2 : Nat) == 4)) = dn 4 := Bool.or_false _
                      have g6 : (dn 6 || ((2 : Nat) == 6)) = false := by rw [f6]; rfl
                      refine OpGoal.imp (S1 := IsW V0 V1 V2 (dn 4) false) (fun W' h => ?_) ?_
                      · show (IsW V0 V1 V2 (dn 4 || ((2 : Nat) == 4)) (dn 6 || ((2 : Nat) == 6))) W'
                        rw [g4, g6]
                        exact h
                      clear g4 g6 e1 e2 e3
                      obtain rfl : l = [(0, 80), (1, 81)] := hl.symm.trans (by kernel_rfl)
                      have p0 : vs 0 = _ := hp 0 (by decide) (by decide)
                      have p1 : vs 1 = _ := hp 1 (by decide) (by decide)
                      clear hp hl
                      refine opgoal (_) (some 82) rfl rfl fun K hK => ?_
                      have hlk := HT3.out.look hS
                      dsimp only [pv] at hlk
                      refine Runs.mk ?_
                      simp only [putAll]
                      go_simp
                      refine hK _ _ ?_ hS ⟨fun h => absurd h (by decide), fun h => absurd h (by decide), fun h4 h6 => ((fun w => trivial) W)⟩ _ rfl rfl
                      first | rfl | go_simp | simp
                    · -- 3: Op.binOp BinOp.add 3 (Operand.tmp 82) (Operand.const (Value.int IntKind.i64 1)) 3
                      intro l hl vs W dn e1 e2 e3 hS hR hp
                      have f4 : dn 4 = dn 4 := rfl
                      have f6 : dn 6 = false := e3 6 (by kernel_rfl)
                      replace hS : (IsW V0 V1 V2 (dn 4) (dn 6)) W := hS
                      rw [f6] at hS
                      have g4 : (dn 4 || ((3 : Nat) == 4)) = dn 4 := Bool.or_false _
                      have g6 : (dn 6 || ((3 : Nat) == 6)) = false := by rw [f6]; rfl
                      refine OpGoal.imp (S1 := IsW V0 V1 V2 (dn 4) false) (fun W' h => ?_) ?_
                      · show (IsW V0 V1 V2 (dn 4 || ((3 : Nat) == 4)) (dn 6 || ((3 : Nat) == 6))) W'
                        rw [g4, g6]
                        exact h
                      clear g4 g6 e1 e2 e3
                      obtain rfl : l = [(0, 80), (1, 81), (2, 82)] := hl.symm.trans (by kernel_rfl)
                      have p2 : vs 2 = _ := hp 2 (by decide) (by decide)
                      clear hp hl
                      refine opgoal (_) (some 83) rfl rfl fun K hK => ?_
                      have hwr := HWR.out
                      refine Runs.mk ?_
                      simp only [putAll]
                      go_simp
                      refine hK _ _ ?_ hS ⟨(fun h => absurd h (by decide)), (fun h => absurd h (by decide)), fun h1 h2 => trivial⟩ _ rfl rfl
                      first | rfl | (rw [hwr]) | (simp only [IntKind.wrap_i64] at hwr; rw [hwr])
                    · -- 4: Op.mapEntry 37 (Operand.tmp 80) (Operand.tmp 81)
                      intro l hl vs W dn e1 e2 e3 hS hR hp
                      have f4 : dn 4 = false := e1
                      have f6 : dn 6 = false := e3 6 (by kernel_rfl)
                      replace hS : (IsW V0 V1 V2 (dn 4) (dn 6)) W := hS
                      rw [f4, f6] at hS
                      have g4 : (dn 4 || ((4 : Nat) == 4)) = true := by rw [f4]; rfl
                      have g6 : (dn 6 || ((4 : Nat) == 6)) = false := by rw [f6]; rfl
                      refine OpGoal.imp (S1 := IsW V0 V1 V2 true false) (fun W' h => ?_) ?_
                      · show (IsW V0 V1 V2 (dn 4 || ((4 : Nat) == 4)) (dn 6 || ((4 : Nat) == 6))) W'
                        rw [g4, g6]
                        exact h
                      clear g4 g6 e1 e2 e3
                      obtain rfl : l = [(0, 80), (1, 81)] := hl.symm.trans (by kernel_rfl)
                      have p0 : vs 0 = _ := hp 0 (by decide) (by decide)
                      have p1 : vs 1 = _ := hp 1 (by decide) (by decide)
                      clear hp hl
                      refine opgoal (_) (some 84) rfl rfl fun K hK => ?_
                      have hen := HT3.out.entW hS
                      dsimp only [pv] at hen
                      refine Runs.mk ?_
                      simp only [putAll]
                      go_simp
                      exact hK _ _ rfl ⟨rfl⟩ ⟨(fun _ => trivial), (fun h => absurd h (by decide)), fun h1 h2 => trivial⟩ _ rfl rfl
                    · -- 5: Op.extract (Operand.tmp 84) 1
                      intro l hl vs W dn e1 e2 e3 hS hR hp
                      have f4 : dn 4 = true := e2 4 (by kernel_rfl)
                      have f6 : dn 6 = false := e3 6 (by kernel_rfl)
                      replace hS : (IsW V0 V1 V2 (dn 4) (dn 6)) W := hS
                      rw [f4, f6] at hS
                      have g4 : (dn 4 || ((5 : Nat) == 4)) = true := by rw [f4]; rfl
                      have g6 : (dn 6 || ((5 : Nat) == 6)) = false := by rw [f6]; rfl
                      refine OpGoal.imp (S1 := IsW V0 V1 V2 true false) (fun W' h => ?_) ?_
                      · show (IsW V0 V1 V2 (dn 4 || ((5 : Nat) == 4)) (dn 6 || ((5 : Nat) == 6))) W'
                        rw [g4, g6]
                        exact h
                      clear g4 g6 e1 e2 e3
                      obtain rfl : l = [(0, 80), (1, 81), (4, 84)] := hl.symm.trans (by kernel_rfl)
                      have p4 : vs 4 = _ := hp 4 (by decide) (by decide)
                      clear hp hl
                      refine opgoal (_) (some 85) rfl rfl fun K hK => ?_
                      refine Runs.mk ?_
                      simp only [putAll]
                      go_simp
                      refine hK _ _ ?_ hS ⟨fun h => absurd h (by decide), fun h => absurd h (by decide), fun h4 h6 => ((fun w => trivial) W)⟩ _ rfl rfl
                      first | rfl | go_simp | simp
                    · -- 6: Op.entryStore 37 (Operand.tmp 80) (Operand.tmp 85) (Operand.tmp 83)
                      intro l hl vs W dn e1 e2 e3 hS hR hp
                      have f4 : dn 4 = true := e2 4 (by kernel_rfl)
                      have f6 : dn 6 = false := e1
                      replace hS : (IsW V0 V1 V2 (dn 4) (dn 6)) W := hS
                      rw [f4, f6] at hS
                      have g4 : (dn 4 || ((6 : Nat) == 4)) = true := by rw [f4]; rfl
                      have g6 : (dn 6 || ((6 : Nat) == 6)) = true := by rw [f6]; rfl
                      refine OpGoal.imp (S1 := IsW V0 V1 V2 true true) (fun W' h => ?_) ?_
                      · show (IsW V0 V1 V2 (dn 4 || ((6 : Nat) == 4)) (dn 6 || ((6 : Nat) == 6))) W'
                        rw [g4, g6]
                        exact h
                      clear g4 g6 e1 e2 e3
                      obtain rfl : l = [(0, 80), (1, 81), (2, 82), (3, 83), (4, 84), (5, 85)] := hl.symm.trans (by kernel_rfl)
                      have p0 : vs 0 = _ := hp 0 (by decide) (by decide)
                      have p3 : vs 3 = _ := hp 3 (by decide) (by decide)
                      have p5 : vs 5 = _ := hp 5 (by decide) (by decide)
                      clear hp hl
                      refine opgoal (_) (none) rfl rfl fun K hK => ?_
                      have hst := HT3.out.stoW hS
                      refine Runs.mk ?_
                      simp only [putAll]
                      go_simp
                      exact hK undef _ trivial ⟨rfl⟩ ⟨(fun h => absurd h (by decide)), (fun _ => trivial), fun h1 h2 => trivial⟩ _ rfl rfl
                  · intro l hl vs W dn hd hS hR hp
                    replace hS : (IsW V0 V1 V2 (dn 4) (dn 6)) W := hS
                    rw [hd 4 (by decide), hd 6 (by decide)] at hS
                    obtain rfl : l = [(0, 80), (1, 81), (2, 82), (3, 83), (4, 84), (5, 85)] := hl.symm.trans (by kernel_rfl)
                    have p0 : vs 0 = _ := hp 0 (by decide) (by decide)
                    have p1 : vs 1 = _ := hp 1 (by decide) (by decide)
                    have p2 : vs 2 = _ := hp 2 (by decide) (by decide)
                    have p3 : vs 3 = _ := hp 3 (by decide) (by decide)
                    have p4 : vs 4 = _ := hp 4 (by decide) (by decide)
                    have p5 : vs 5 = _ := hp 5 (by decide) (by decide)
                    have p6 : (fun v W => True) (vs 6) W := hp 6 (by decide) (by decide)
                    dsimp only at p6
                    clear hp hl
                    simp only [putAll_mk, setAll, List.setIfInBounds_toArray, List.set_cons_succ, List.set_cons_zero, p0, p1, p2, p3, p4, p5]
                    have HW := Lib.hid hS
                    clear hS hR hS0 p6
                    rw [show W = V2 from HW.out.e]
                    go_wp2_with fail
                    go_roundg (Ln - (j + 1))
                    case measure => omega
                    case rel => exact HREL.out
                · obtain rfl : j = Ln := by omega
                  have HFIN : Hid (∃ Ls' : List Pkt, Hid (OnL w wr b mb cb N (sumN (ops.take (k + 1)) + (k + 1)) (k + 1) Ls') ∧ Ls'.length ≤ 256) := Lib.hid ⟨L2, Lib.hid ⟨nn, f, m', g', M', hn7.sub (by simp), by omega, HIN.out.1, by have h1 := hB.out; have h2 := hBe.out; have h3 := HIN.out.2.1; omega, (HCI2.out g' (fun y => by have := HIN.out.2.2 y; rw [List.take_of_length_le (by rw [hLl.out]; exact Nat.le_refl _)] at this; exact this)).mono (by have h1 := hB.out; have h2 := hBe.out; omega), HGD2.out⟩, HL6.out⟩
                  clear hn7
                  go_wp2
                  go_meet
                  exact HFIN.out
          · have e0 : (ok == 0) = false := by simpa using k0
            by_cases k1 : ok = 1
            · have e1 : (ok == 1) = true := by simpa using k1
              by_cases hin : 0 ≤ oa ∧ oa < Ls.length
              · obtain ⟨ix, rfl⟩ : ∃ ix : Nat, oa = (ix : Int) := ⟨oa.toNat, by omega⟩
                have hix : ix < Ls.length := by omega
                have HTK := np_take HNP.out hL256 ix hix
                obtain ⟨hCI, hpos⟩ := HCN.out.2.2.took hix
                have hlen : (Ls.eraseIdx ix).length ≤ 256 := by rw [List.length_eraseIdx_of_lt hix]; omega
                have HGE : Hid (∀ y ∈ Ls.eraseIdx ix, goodP y) := Lib.hid fun y hy => HGL.out y (List.mem_of_mem_eraseIdx hy)
                have hgp := HGL.out Ls[ix] (List.getElem_mem _)
                obtain ⟨⟨px, py, pS, pq⟩, hx⟩ : ∃ x : Pkt, Ls[ix] = x := ⟨_, rfl⟩
                obtain ⟨L2, hL2⟩ : ∃ L2, Ls.eraseIdx ix = L2 := ⟨_, rfl⟩
                rw [hx, hL2] at HTK hCI
                rw [hx] at hpos hgp
                rw [hL2] at hlen HGE
                have hub := (HCN.out.2.2 ⟨px, py, pS, pq⟩).2
                have HTK := Lib.hid HTK
                have HCI := Lib.hid hCI
                have HBG : Hid (1 ≤ g ⟨px, py, pS, pq⟩ ∧ g ⟨px, py, pS, pq⟩ ≤ 1000) := Lib.hid ⟨hpos, by have := hB.out; have := hBe.out; omega⟩
                have HGP := Lib.hid hgp
                have HL6 := Lib.hid hlen
                clear hin hix hCI hpos hlen hgp hx hL2 hub k0 k1
                dsimp only [pv] at HTK
                go_wp2_with fail
                refine HTK.out.mono ?_
                rintro e w6 ⟨rfl, hn6⟩
                obtain ⟨xb, hxb⟩ : ∃ xb, Hid (w6.heap.size = xb) := ⟨_, Lib.hid rfl⟩
                obtain ⟨W5, hW5⟩ : ∃ W5, Hid (w6.alloc (.cells #[.int .i64 px, .int .i64 py, .string pS, .bool pq] PT) = W5) := ⟨_, Lib.hid rfl⟩
                have hal := hn6.alloc (.cells #[.int .i64 px, .int .i64 py, .string pS, .bool pq] PT)
                rw [hW5.out, hxb.out] at hal
                have hpx := hal.pr (xb, .cells #[.int .i64 px, .int .i64 py, .string pS, .bool pq] PT (0, 0)) (by simp)
                have hpm := hal.pr (cb, M) (by simp)
                have hxcb : xb ≠ cb := by
                  have h1 := (Array.getElem?_eq_some_iff.1 (hn6.pr (cb, M) (by simp)).1).1
                  have := hxb.out
                  dsimp only at h1
                  omega
                have hmlt : m < 1000000 := by have := HCN.out.2.1; have := hB.out; have := hBe.out; omega
                have hwf : (Lit.int .i64 (g ⟨px, py, pS, pq⟩ + -1)).wf = true := Go.Proofs.Ytbdcgfdchkbcnaa.Ne.i64_wf (by have := HBG.out; omega)
                obtain ⟨st, V1, V2, M2, hT3, hV2, hcn2⟩ := cnt_turn (W := W5.drew) hpm.1 HCN.out.1 hmlt ⟨px, py, pS, pq⟩ HGP.out (g ⟨px, py, pS, pq⟩ + -1) hwf
                have HLK2 : Hid ((Instr.lookup CM (.map (some cb)) (.agg #[.int .i64 px, .int .i64 py, .string pS, .bool pq]) false).run Try.prog V2 = .ok (.int .i64 (g ⟨px, py, pS, pq⟩ + -1)) V2) := Lib.hid (by
                  have := pkm_look (hcn2 V2 hV2) ⟨px, py, pS, pq⟩ HGP.out
                  simp only [updC, if_pos] at this
                  exact this)
                have HREL := Lib.hid (HFIN.out V2 nn f (m + 1) _ M2 L2 (by
                  have h1 : NP w W5.drew ((cb, M) :: [(ob, opO p)]) b mb N nn f L2 := (hal.sub (by simp)).below (below_drewN 1 W5)
                  exact h1.turn hT3.k2 hV2 hcw.out (by intro q hq; simp at hq; subst hq; exact fun h => hob0.out.2 h.symm)) (by omega) hcn2 (by have := HCN.out.2.1; omega) (HCI.out.mono (by omega)) HL6.out HGE.out)
                obtain ⟨gp, hgpe⟩ : ∃ gp, g ⟨px, py, pS, pq⟩ = gp := ⟨_, rfl⟩
                rw [hgpe] at hT3 HBG HLK2
                obtain ⟨gx, hgx⟩ : ∃ gx, gp + -1 = gx := ⟨_, rfl⟩
                rw [hgx] at hT3 HLK2
                have HT3 := Lib.hid hT3
                have HWR : Hid (IntKind.i64.wrap (gp - 1) = gx) := Lib.hid (by have := HBG.out; rw [IntKind.wrap_i64]; omega)
                have HD0 : Hid (decide (gx < 0) = false) := Lib.hid (by have := HBG.out; simp; omega)
                obtain ⟨V0, hV0⟩ : ∃ V0, Hid (W5.drew = V0) := ⟨_, Lib.hid rfl⟩
                rw [hV0.out] at HT3
                have hS0 : IsW V0 V1 V2 false false W5.drew := ⟨hV0.out⟩
                have HPX : Hid (∀ W, Keep [cb] V0 W → W.cell? ⟨xb, 0, none⟩ = some (.int .i64 px) ∧ W.cell? ⟨xb, 1, none⟩ = some (.int .i64 py) ∧ W.cell? ⟨xb, 2, none⟩ = some (.string pS) ∧ W.cell? ⟨xb, 3, none⟩ = some (.bool pq)) := Lib.hid fun W hk => pk_cells (keep_block hk (by rw [← hV0.out]; exact hpx.1) (by simpa using hxcb))
                clear hal hpx hpm hxcb hmlt hwf hT3 hV2 hcn2 hgpe hgx hn6 c0 c1 c2 c3
                go_wp2_with (rw [hW5.out, hxb.out])
                refine wp_region_done (fun d => IsW V0 V1 V2 (d 4) (d 6)) (fun _ _ => True) (fun k u v => (k = 4 → (fun _ _ => True) u v) ∧ (k = 6 → (fun _ _ => True) u v) ∧ (¬ k = 4 → ¬ k = 6 → (fun _ _ => True) u v)) (fun a i => match i with
                    | 0 => (fun v _ => v = .map (some cb))
                    | 1 => (fun v _ => v = .agg #[.int .i64 px, .int .i64 py, .string pS, .bool pq])
                    | 2 => (fun v _ => v = .int .i64 gp)
                    | 3 => (fun v _ => v = .int .i64 gx)
                    | 4 => (fun v _ => v = .tuple #[.int .i64 gp, .int .i64 st])
                    | 5 => (fun v _ => v = .int .i64 st)
                    | 6 => (fun v W => True)
                    | _ => (fun _ _ => True)) #[0, 0, 3, 7, 3, 19, 63] #[0, 0, 3, 4, 3, 16, 41] 127 (by kernel_rfl) 7 rfl (fun m hm => by subst hm; kernel_rfl) (by kernel_rfl) (fun w => trivial) (fun u v w h1 h2 => trivial) ?_ ?_ (hS0) ?_ ?_
                · intro k u v hk hr
                  by_cases hs4 : k = 4
                  · have h := hr.1 hs4; exact trivial
                  by_cases hs6 : k = 6
                  · have h := hr.2.1 hs6; exact trivial
                  have h := hr.2.2 hs4 hs6; exact trivial
                · intro i hi
                  rcases (by omega : i = 0 ∨ i = 1 ∨ i = 2 ∨ i = 3 ∨ i = 4 ∨ i = 5 ∨ i = 6) with rfl | rfl | rfl | rfl | rfl | rfl | rfl
                  · intro k hk y hy hyt v w w' h hr
                    exact h
                  · intro k hk y hy hyt v w w' h hr
                    exact h
                  · intro k hk y hy hyt v w w' h hr
                    exact h
                  · intro k hk y hy hyt v w w' h hr
                    exact h
                  · intro k hk y hy hyt v w w' h hr
                    exact h
                  · intro k hk y hy hyt v w w' h hr
                    exact h
                  · intro k hk y hy hyt v w w' h hr
                    by_cases hs4 : k = 4
                    · have hr0 := hr.1 hs4
                      subst hs4
                      exact absurd (hy.trans hyt) (ne_true_of_eq_false (by kernel_rfl))
                    by_cases hs6 : k = 6
                    · have hr0 := hr.2.1 hs6
                      subst hs6
                      exact absurd (hy.trans hyt) (ne_true_of_eq_false (by kernel_rfl))
                    have hr := hr.2.2 hs4 hs6
                    exact trivial
                · intro i hi
                  rcases (by omega : i = 0 ∨ i = 1 ∨ i = 2 ∨ i = 3 ∨ i = 4 ∨ i = 5 ∨ i = 6) with rfl | rfl | rfl | rfl | rfl | rfl | rfl
                  · -- 0: Op.move (Operand.tmp 7)
                    intro l hl vs W dn e1 e2 e3 hS hR hp
                    have f4 : dn 4 = false := e3 4 (by kernel_rfl)
                    have f6 : dn 6 = false := e3 6 (by kernel_rfl)
                    replace hS : (IsW V0 V1 V2 (dn 4) (dn 6)) W := hS
                    rw [f4, f6] at hS
                    have g4 : (dn 4 || ((0 : Nat) == 4)) = false := by rw [f4]; rfl
                    have g6 : (dn 6 || ((0 : Nat) == 6)) = false := by rw [f6]; rfl
                    refine OpGoal.imp (S1 := IsW V0 V1 V2 false false) (fun W' h => ?_) ?_
                    · show (IsW V0 V1 V2 (dn 4 || ((0 : Nat) == 4)) (dn 6 || ((0 : Nat) == 6))) W'
                      rw [g4, g6]
                      exact h
                    clear g4 g6 e1 e2 e3
                    obtain rfl : l = [] := hl.symm.trans (by kernel_rfl)
                    clear hp hl
                    refine opgoal (_) (some 98) rfl rfl fun K hK => ?_
                    refine Runs.mk ?_
                    simp only [putAll]
                    go_simp
                    refine hK _ _ ?_ hS ⟨fun h => absurd h (by decide), fun h => absurd h (by decide), fun h4 h6 => ((fun w => trivial) W)⟩ _ rfl rfl
                    first | rfl | go_simp | simp
                  · -- 1: Op.load 29 (Operand.tmp 14)
                    intro l hl vs W dn e1 e2 e3 hS hR hp
                    have f4 : dn 4 = false := e3 4 (by kernel_rfl)
                    have f6 : dn 6 = false := e3 6 (by kernel_rfl)
                    replace hS : (IsW V0 V1 V2 (dn 4) (dn 6)) W := hS
                    rw [f4, f6] at hS
                    have g4 : (dn 4 || ((1 : Nat) == 4)) = false := by rw [f4]; rfl
                    have g6 : (dn 6 || ((1 : Nat) == 6)) = false := by rw [f6]; rfl
                    refine OpGoal.imp (S1 := IsW V0 V1 V2 false false) (fun W' h => ?_) ?_
                    · show (IsW V0 V1 V2 (dn 4 || ((1 : Nat) == 4)) (dn 6 || ((1 : Nat) == 6))) W'
                      rw [g4, g6]
                      exact h
                    clear g4 g6 e1 e2 e3
                    obtain rfl : l = [] := hl.symm.trans (by kernel_rfl)
                    clear hp hl
                    refine opgoal (_) (some 99) rfl rfl fun K hK => ?_
                    obtain ⟨q0, q1, q2, q3⟩ := HPX.out W (HT3.out.keep hS)
                    refine Runs.mk ?_
                    simp only [putAll]
                    go_simp
                    refine hK _ _ ?_ hS ⟨fun h => absurd h (by decide), fun h => absurd h (by decide), fun h4 h6 => ((fun w => trivial) W)⟩ _ rfl rfl
                    first | rfl | go_simp | simp
                  · -- 2: Op.lookup 37 (Operand.tmp 98) (Operand.tmp 99) false
                    intro l hl vs W dn e1 e2 e3 hS hR hp
                    have f4 : dn 4 = dn 4 := rfl
                    have f6 : dn 6 = false := e3 6 (by kernel_rfl)
                    replace hS : (IsW V0 V1 V2 (dn 4) (dn 6)) W := hS
                    rw [f6] at hS
                    have g4 : (dn 4 || ((2 : Nat) == 4)) = dn 4 := Bool.or_false _
                    have g6 : (dn 6 || ((2 : Nat) == 6)) = false := by rw [f6]; rfl
                    refine OpGoal.imp (S1 := IsW V0 V1 V2 (dn 4) false) (fun W' h => ?_) ?_
                    · show (IsW V0 V1 V2 (dn 4 || ((2 : Nat) == 4)) (dn 6 || ((2 : Nat) == 6))) W'
                      rw [g4, g6]
                      exact h
                    clear g4 g6 e1 e2 e3
                    obtain rfl : l = [(0, 98), (1, 99)] := hl.symm.trans (by kernel_rfl)
                    have p0 : vs 0 = _ := hp 0 (by decide) (by decide)
                    have p1 : vs 1 = _ := hp 1 (by decide) (by decide)
                    clear hp hl
                    refine opgoal (_) (some 100) rfl rfl fun K hK => ?_
                    have hlk := HT3.out.look hS
                    dsimp only [pv] at hlk
                    refine Runs.mk ?_
                    simp only [putAll]
                    go_simp
                    refine hK _ _ ?_ hS ⟨fun h => absurd h (by decide), fun h => absurd h (by decide), fun h4 h6 => ((fun w => trivial) W)⟩ _ rfl rfl
                    first | rfl | go_simp | simp
                  · -- 3: Op.binOp BinOp.sub 3 (Operand.tmp 100) (Operand.const (Value.int IntKind.i64 1)) 3
                    intro l hl vs W dn e1 e2 e3 hS hR hp
                    have f4 : dn 4 = dn 4 := rfl
                    have f6 : dn 6 = false := e3 6 (by kernel_rfl)
                    replace hS : (IsW V0 V1 V2 (dn 4) (dn 6)) W := hS
                    rw [f6] at hS
                    have g4 : (dn 4 || ((3 : Nat) == 4)) = dn 4 := Bool.or_false _
                    have g6 : (dn 6 || ((3 : Nat) == 6)) = false := by rw [f6]; rfl
                    refine OpGoal.imp (S1 := IsW V0 V1 V2 (dn 4) false) (fun W' h => ?_) ?_
                    · show (IsW V0 V1 V2 (dn 4 || ((3 : Nat) == 4)) (dn 6 || ((3 : Nat) == 6))) W'
                      rw [g4, g6]
                      exact h
                    clear g4 g6 e1 e2 e3
                    obtain rfl : l = [(0, 98), (1, 99), (2, 100)] := hl.symm.trans (by kernel_rfl)
                    have p2 : vs 2 = _ := hp 2 (by decide) (by decide)
                    clear hp hl
                    refine opgoal (_) (some 101) rfl rfl fun K hK => ?_
                    have hwr := HWR.out
                    refine Runs.mk ?_
                    simp only [putAll]
                    go_simp
                    refine hK _ _ ?_ hS ⟨(fun h => absurd h (by decide)), (fun h => absurd h (by decide)), fun h1 h2 => trivial⟩ _ rfl rfl
                    first | rfl | (rw [hwr]) | (simp only [IntKind.wrap_i64] at hwr; rw [hwr])
                  · -- 4: Op.mapEntry 37 (Operand.tmp 98) (Operand.tmp 99)
                    intro l hl vs W dn e1 e2 e3 hS hR hp
                    have f4 : dn 4 = false := e1
                    have f6 : dn 6 = false := e3 6 (by kernel_rfl)
                    replace hS : (IsW V0 V1 V2 (dn 4) (dn 6)) W := hS
                    rw [f4, f6] at hS
                    have g4 : (dn 4 || ((4 : Nat) == 4)) = true := by rw [f4]; rfl
                    have g6 : (dn 6 || ((4 : Nat) == 6)) = false := by rw [f6]; rfl
                    refine OpGoal.imp (S1 := IsW V0 V1 V2 true false) (fun W' h => ?_) ?_
                    · show (IsW V0 V1 V2 (dn 4 || ((4 : Nat) == 4)) (dn 6 || ((4 : Nat) == 6))) W'
                      rw [g4, g6]
                      exact h
                    clear g4 g6 e1 e2 e3
                    obtain rfl : l = [(0, 98), (1, 99)] := hl.symm.trans (by kernel_rfl)
                    have p0 : vs 0 = _ := hp 0 (by decide) (by decide)
                    have p1 : vs 1 = _ := hp 1 (by decide) (by decide)
                    clear hp hl
                    refine opgoal (_) (some 102) rfl rfl fun K hK => ?_
                    have hen := HT3.out.entW hS
                    dsimp only [pv] at hen
                    refine Runs.mk ?_
                    simp only [putAll]
                    go_simp
                    exact hK _ _ rfl ⟨rfl⟩ ⟨(fun _ => trivial), (fun h => absurd h (by decide)), fun h1 h2 => trivial⟩ _ rfl rfl
                  · -- 5: Op.extract (Operand.tmp 102) 1
                    intro l hl vs W dn e1 e2 e3 hS hR hp
                    have f4 : dn 4 = true := e2 4 (by kernel_rfl)
                    have f6 : dn 6 = false := e3 6 (by kernel_rfl)
                    replace hS : (IsW V0 V1 V2 (dn 4) (dn 6)) W := hS
                    rw [f4, f6] at hS
                    have g4 : (dn 4 || ((5 : Nat) == 4)) = true := by rw [f4]; rfl
                    have g6 : (dn 6 || ((5 : Nat) == 6)) = false := by rw [f6]; rfl
                    refine OpGoal.imp (S1 := IsW V0 V1 V2 true false) (fun W' h => ?_) ?_
                    · show (IsW V0 V1 V2 (dn 4 || ((5 : Nat) == 4)) (dn 6 || ((5 : Nat) == 6))) W'
                      rw [g4, g6]
                      exact h
                    clear g4 g6 e1 e2 e3
                    obtain rfl : l = [(0, 98), (1, 99), (4, 102)] := hl.symm.trans (by kernel_rfl)
                    have p4 : vs 4 = _ := hp 4 (by decide) (by decide)
                    clear hp hl
                    refine opgoal (_) (some 103) rfl rfl fun K hK => ?_
                    refine Runs.mk ?_
                    simp only [putAll]
                    go_simp
                    refine hK _ _ ?_ hS ⟨fun h => absurd h (by decide), fun h => absurd h (by decide), fun h4 h6 => ((fun w => trivial) W)⟩ _ rfl rfl
                    first | rfl | go_simp | simp
                  · -- 6: Op.entryStore 37 (Operand.tmp 98) (Operand.tmp 103) (Operand.tmp 101)
                    intro l hl vs W dn e1 e2 e3 hS hR hp
                    have f4 : dn 4 = true := e2 4 (by kernel_rfl)
                    have f6 : dn 6 = false := e1
                    replace hS : (IsW V0 V1 V2 (dn 4) (dn 6)) W := hS
                    rw [f4, f6] at hS
                    have g4 : (dn 4 || ((6 : Nat) == 4)) = true := by rw [f4]; rfl
                    have g6 : (dn 6 || ((6 : Nat) == 6)) = true := by rw [f6]; rfl
                    refine OpGoal.imp (S1 := IsW V0 V1 V2 true true) (fun W' h => ?_) ?_
                    · show (IsW V0 V1 V2 (dn 4 || ((6 : Nat) == 4)) (dn 6 || ((6 : Nat) == 6))) W'
                      rw [g4, g6]
                      exact h
                    clear g4 g6 e1 e2 e3
                    obtain rfl : l = [(0, 98), (1, 99), (2, 100), (3, 101), (4, 102), (5, 103)] := hl.symm.trans (by kernel_rfl)
                    have p0 : vs 0 = _ := hp 0 (by decide) (by decide)
                    have p3 : vs 3 = _ := hp 3 (by decide) (by decide)
                    have p5 : vs 5 = _ := hp 5 (by decide) (by decide)
                    clear hp hl
                    refine opgoal (_) (none) rfl rfl fun K hK => ?_
                    have hst := HT3.out.stoW hS
                    refine Runs.mk ?_
                    simp only [putAll]
                    go_simp
                    exact hK undef _ trivial ⟨rfl⟩ ⟨(fun h => absurd h (by decide)), (fun _ => trivial), fun h1 h2 => trivial⟩ _ rfl rfl
                · intro l hl vs W dn hd hS hR hp
                  replace hS : (IsW V0 V1 V2 (dn 4) (dn 6)) W := hS
                  rw [hd 4 (by decide), hd 6 (by decide)] at hS
                  obtain rfl : l = [(0, 98), (1, 99), (2, 100), (3, 101), (4, 102), (5, 103)] := hl.symm.trans (by kernel_rfl)
                  have p0 : vs 0 = _ := hp 0 (by decide) (by decide)
                  have p1 : vs 1 = _ := hp 1 (by decide) (by decide)
                  have p2 : vs 2 = _ := hp 2 (by decide) (by decide)
                  have p3 : vs 3 = _ := hp 3 (by decide) (by decide)
                  have p4 : vs 4 = _ := hp 4 (by decide) (by decide)
                  have p5 : vs 5 = _ := hp 5 (by decide) (by decide)
                  have p6 : (fun v W => True) (vs 6) W := hp 6 (by decide) (by decide)
                  dsimp only at p6
                  clear hp hl
                  simp only [putAll_mk, setAll, List.setIfInBounds_toArray, List.set_cons_succ, List.set_cons_zero, p0, p1, p2, p3, p4, p5]
                  have HW := Lib.hid hS
                  clear hS hR hS0 p6
                  rw [show W = V2 from HW.out.e]
                  obtain ⟨q0, q1, q2, q3⟩ := HPX.out V2 HT3.out.k2
                  have hlk := HLK2.out
                  have hd := HD0.out
                  go_wp2_with fail
                  go_meet
                  exact HREL.out
              · have HTK := Lib.hid (np_take_no HNP.out oa hin)
                clear k0 k1 hin
                go_wp2_with fail
                refine HTK.out.mono ?_
                rintro e w6 ⟨rfl, hn6⟩
                have HREL := Lib.hid (HFIN.out _ nn f m g M Ls (((hn6.below (below_alloc w6 (.cells #[.int .i64 0, .int .i64 0, .string ⟨#[]⟩, .bool false] PT))))) (by omega) HCN.out.1 (by have := HCN.out.2.1; omega) (HCN.out.2.2.mono (by omega)) hL256 HGL.out)
                clear hn6 c0 c1 c2 c3
                go_wp2_with fail
                go_meet
                exact HREL.out
            · have e1 : (ok == 1) = false := by simpa using k1
              by_cases k2 : ok = 2
              · have e2 : (ok == 2) = true := by simpa using k2
                have HALL := Lib.hid (np_all HNP.out hL256)
                have hcW := (Array.getElem?_eq_some_iff.1 (HNP.out.pr (cb, M) (by simp)).1).1
                dsimp only at hcW
                have HCW := Lib.hid hcW
                clear hcW
                go_wp2_with fail
                refine HALL.out.mono ?_
                rintro e w6 ⟨A2, lc2, qr, rfl, hn6, hqs, hrd⟩
                clear c0 c1 c2 c3
                obtain ⟨c0, c1, c2, c3⟩ := HCE.out _ _ _ _ _ hn6 (by simp)
                by_cases hin : 0 ≤ oa ∧ oa < Ls.length
                · obtain ⟨ix, rfl⟩ : ∃ ix : Nat, oa = (ix : Int) := ⟨oa.toNat, by omega⟩
                  have hix : ix < Ls.length := by omega
                  by_cases hfull : Ls.length < 256
                  · have HDB := Lib.hid (np_double hn6 ix hix hfull)
                    have HHG := Lib.hid (And.intro hin (And.intro hix hfull))
                    have HQ := Lib.hid (And.intro hqs hrd)
                    obtain ⟨ln, hln⟩ : ∃ ln, Hid (Ls.length = ln) := ⟨_, Lib.hid rfl⟩
                    rw [hln.out]
                    clear hin hfull hn6 hqs hrd k0 k1 k2
                    go_wp2_with fail
                    refine HDB.out.mono ?_
                    rintro e w7 ⟨rfl, hn7⟩
                    obtain ⟨hin, -, hfull⟩ := HHG.out
                    obtain ⟨hqs, hrd⟩ := HQ.out
                    have hCI := HCN.out.2.2.doubled hix
                    have HGE : Hid (∀ y ∈ Ls ++ [Ls[ix]], goodP y) := Lib.hid fun y hy => by
                      rcases List.mem_append.1 hy with h | h
                      · exact HGL.out y h
                      · simp at h; rw [h]; exact HGL.out _ (List.getElem_mem _)
                    have HL7 : Hid ((Ls ++ [Ls[ix]]).length ≤ 256) := Lib.hid (by simp; omega)
                    have hgp := HGL.out Ls[ix] (List.getElem_mem _)
                    have hub := HCN.out.2.2 Ls[ix]
                    have hpm := hn7.pr (cb, M) (by simp)
                    have hpo := hn7.pr (ob, opO p) (by simp)
                    have HQB : Hid (∀ W, Keep [cb] w7 W → RdE W A2 Ls.length 4 (Ls.map encP)) := Lib.hid fun W hk => hrd W fun q hq => by
                      refine keep_block hk (hn7.pr q (by simp [hq])).1 ?_
                      have := hqs q hq
                      have := HCW.out
                      simp
                      omega
                    obtain ⟨⟨px, py, pS, pq⟩, hx⟩ : ∃ x : Pkt, Hid (Ls[ix] = x) := ⟨_, Lib.hid rfl⟩
                    obtain ⟨ab2, ao2, hA2, -⟩ := pkt_at (HQB.out w7 (Keep.refl _ _)) ix hix (by simpa using hix) _ hx.out
                    subst hA2
                    have HPX : Hid (∀ W, Keep [cb] w7 W → W.cell? ⟨ab2, ao2 + ix * 4, none⟩ = some (.int .i64 px) ∧ W.cell? ⟨ab2, ao2 + ix * 4 + 1, none⟩ = some (.int .i64 py) ∧ W.cell? ⟨ab2, ao2 + ix * 4 + 2, none⟩ = some (.string pS) ∧ W.cell? ⟨ab2, ao2 + ix * 4 + 3, none⟩ = some (.bool pq)) := Lib.hid fun W hk => by
                      obtain ⟨b9, f9, h9, d0, d1, d2, d3⟩ := pkt_at (HQB.out W hk) ix hix (by simpa using hix) _ hx.out
                      injection h9 with h9
                      injection h9 with e1 e2
                      subst e1; subst e2
                      exact ⟨d0, d1, d2, d3⟩
                    have HOC : Hid (∀ W, Keep [cb] w7 W → W.cell? ⟨ob, 0, none⟩ = some (.int .i64 ok) ∧ W.cell? ⟨ob, 1, none⟩ = some (.int .i64 (ix : Int)) ∧ W.cell? ⟨ob, 2, none⟩ = some (.int .i64 oB) ∧ W.cell? ⟨ob, 3, none⟩ = some (.slice LA Ln Lc)) := Lib.hid fun W hk => by
                      have := op_cells (keep_block hk hpo.1 (by have := hob0.out.2; simp; omega))
                      rw [HO.out] at this
                      exact this
                    have HIL : Hid (ix < ln) := Lib.hid (by rw [← hln.out]; exact hix)
                    rw [hx.out] at hCI HGE HL7 hgp hub hn7
                    have hmlt : m < 1000000 := by have := HCN.out.2.1; have := hB.out; have := hBe.out; omega
                    obtain ⟨st, V1, V2, M2, hT3, hV2, hcn2⟩ := cnt_turn (W := w7.drew) hpm.1 HCN.out.1 hmlt ⟨px, py, pS, pq⟩ hgp (g ⟨px, py, pS, pq⟩ + 1) (Go.Proofs.Ytbdcgfdchkbcnaa.Ne.i64_wf (by have := hB.out; have := hBe.out; omega))
                    have HREL := Lib.hid (HFIN.out V2 nn f (m + 1) _ M2 _ (by
                      have h1 : NP w w7.drew ((cb, M) :: [(ob, opO p)]) b mb N nn f _ := (hn7.sub (by simp)).below (below_drewN 1 w7)
                      exact h1.turn hT3.k2 hV2 hcw.out (by intro q hq; simp at hq; subst hq; exact fun h => hob0.out.2 h.symm)) (by omega) hcn2 (by have := HCN.out.2.1; omega) hCI HL7.out HGE.out)
                    obtain ⟨gp, hgpe⟩ : ∃ gp, g ⟨px, py, pS, pq⟩ = gp := ⟨_, rfl⟩
                    rw [hgpe] at hT3 hub
                    obtain ⟨gx, hgx⟩ : ∃ gx, gp + 1 = gx := ⟨_, rfl⟩
                    rw [hgx] at hT3
                    have HT3 := Lib.hid hT3
                    have HWR : Hid (IntKind.i64.wrap (gp + 1) = gx) := Lib.hid (by have := hB.out; have := hBe.out; rw [IntKind.wrap_i64]; omega)
                    obtain ⟨V0, hV0⟩ : ∃ V0, Hid (w7.drew = V0) := ⟨_, Lib.hid rfl⟩
                    rw [hV0.out] at HT3
                    have HPX : Hid (∀ W, Keep [cb] V0 W → W.cell? ⟨ab2, ao2 + ix * 4, none⟩ = some (.int .i64 px) ∧ W.cell? ⟨ab2, ao2 + ix * 4 + 1, none⟩ = some (.int .i64 py) ∧ W.cell? ⟨ab2, ao2 + ix * 4 + 2, none⟩ = some (.string pS) ∧ W.cell? ⟨ab2, ao2 + ix * 4 + 3, none⟩ = some (.bool pq)) := Lib.hid fun W hk => by
                      rw [← hV0.out] at hk
                      have h0 : Keep [cb] w7 w7.drew := .of_below (below_drewN 1 w7)
                      exact HPX.out W (h0.trans hk)
                    have HOC : Hid (∀ W, Keep [cb] V0 W → W.cell? ⟨ob, 0, none⟩ = some (.int .i64 ok) ∧ W.cell? ⟨ob, 1, none⟩ = some (.int .i64 (ix : Int)) ∧ W.cell? ⟨ob, 2, none⟩ = some (.int .i64 oB) ∧ W.cell? ⟨ob, 3, none⟩ = some (.slice LA Ln Lc)) := Lib.hid fun W hk => by
                      rw [← hV0.out] at hk
                      have h0 : Keep [cb] w7 w7.drew := .of_below (below_drewN 1 w7)
                      exact HOC.out W (h0.trans hk)
                    have hS0 : IsW V0 V1 V2 false false w7.drew := ⟨hV0.out⟩
                    clear hCI hgp hub hpm hpo hx hmlt hT3 hV2 hcn2 hgpe hgx hn7 hin hfull hqs hrd HQ HHG HQB c0 c1 c2 c3
                    go_wp2_with fail
                    refine wp_region_done (fun d => IsW V0 V1 V2 (d 8) (d 10)) (fun _ _ => True) (fun k u v => (k = 8 → (fun _ _ => True) u v) ∧ (k = 10 → (fun _ _ => True) u v) ∧ (¬ k = 8 → ¬ k = 10 → (fun _ _ => True) u v)) (fun a i => match i with
                        | 0 => (fun v _ => v = .map (some cb))
                        | 1 => (fun v _ => v = .slice (some ⟨ab2, ao2, none⟩) ln lc2)
                        | 2 => (fun v _ => v = .pointer (some ⟨ob, 1, none⟩))
                        | 3 => (fun v _ => v = .int .i64 (ix : Int))
                        | 4 => (fun v _ => v = .pointer (some ⟨ab2, ao2 + ix * 4, none⟩))
                        | 5 => (fun v _ => v = .agg #[.int .i64 px, .int .i64 py, .string pS, .bool pq])
                        | 6 => (fun v _ => v = .int .i64 gp)
                        | 7 => (fun v _ => v = .int .i64 gx)
                        | 8 => (fun v _ => v = .tuple #[.int .i64 gp, .int .i64 st])
                        | 9 => (fun v _ => v = .int .i64 st)
                        | 10 => (fun v W => True)
                        | _ => (fun _ _ => True)) #[0, 0, 0, 4, 14, 30, 63, 127, 63, 319, 1023] #[0, 0, 0, 4, 10, 16, 33, 64, 33, 256, 641] 2047 (by kernel_rfl) 11 rfl (fun m hm => by subst hm; kernel_rfl) (by kernel_rfl) (fun w => trivial) (fun u v w h1 h2 => trivial) ?_ ?_ (hS0) ?_ ?_
                    · intro k u v hk hr
                      by_cases hs8 : k = 8
                      · have h := hr.1 hs8; exact trivial
                      by_cases hs10 : k = 10
                      · have h := hr.2.1 hs10; exact trivial
                      have h := hr.2.2 hs8 hs10; exact trivial
                    · intro i hi
                      rcases (by omega : i = 0 ∨ i = 1 ∨ i = 2 ∨ i = 3 ∨ i = 4 ∨ i = 5 ∨ i = 6 ∨ i = 7 ∨ i = 8 ∨ i = 9 ∨ i = 10) with rfl | rfl | rfl | rfl | rfl | rfl | rfl | rfl | rfl | rfl | rfl
                      · intro k hk y hy hyt v w w' h hr
                        exact h
                      · intro k hk y hy hyt v w w' h hr
                        exact h
                      · intro k hk y hy hyt v w w' h hr
                        exact h
                      · intro k hk y hy hyt v w w' h hr
                        exact h
                      · intro k hk y hy hyt v w w' h hr
                        exact h
                      · intro k hk y hy hyt v w w' h hr
                        exact h
                      · intro k hk y hy hyt v w w' h hr
                        exact h
                      · intro k hk y hy hyt v w w' h hr
                        exact h
                      · intro k hk y hy hyt v w w' h hr
                        exact h
                      · intro k hk y hy hyt v w w' h hr
                        exact h
                      · intro k hk y hy hyt v w w' h hr
                        by_cases hs8 : k = 8
                        · have hr0 := hr.1 hs8
                          subst hs8
                          exact absurd (hy.trans hyt) (ne_true_of_eq_false (by kernel_rfl))
                        by_cases hs10 : k = 10
                        · have hr0 := hr.2.1 hs10
                          subst hs10
                          exact absurd (hy.trans hyt) (ne_true_of_eq_false (by kernel_rfl))
                        have hr := hr.2.2 hs8 hs10
                        exact trivial
                    · intro i hi
                      rcases (by omega : i = 0 ∨ i = 1 ∨ i = 2 ∨ i = 3 ∨ i = 4 ∨ i = 5 ∨ i = 6 ∨ i = 7 ∨ i = 8 ∨ i = 9 ∨ i = 10) with rfl | rfl | rfl | rfl | rfl | rfl | rfl | rfl | rfl | rfl | rfl
                      · -- 0: Op.move (Operand.tmp 7)
                        intro l hl vs W dn e1 e2 e3 hS hR hp
                        have f8 : dn 8 = false := e3 8 (by kernel_rfl)
                        have f10 : dn 10 = false := e3 10 (by kernel_rfl)
                        replace hS : (IsW V0 V1 V2 (dn 8) (dn 10)) W := hS
                        rw [f8, f10] at hS
                        have g8 : (dn 8 || ((0 : Nat) == 8)) = false := by rw [f8]; rfl
                        have g10 : (dn 10 || ((0 : Nat) == 10)) = false := by rw [f10]; rfl
                        refine OpGoal.imp (S1 := IsW V0 V1 V2 false false) (fun W' h => ?_) ?_
                        · show (IsW V0 V1 V2 (dn 8 || ((0 : Nat) == 8)) (dn 10 || ((0 : Nat) == 10))) W'
                          rw [g8, g10]
                          exact h
                        clear g8 g10 e1 e2 e3
                        obtain rfl : l = [] := hl.symm.trans (by kernel_rfl)
                        clear hp hl
                        refine opgoal (_) (some 117) rfl rfl fun K hK => ?_
                        refine Runs.mk ?_
                        simp only [putAll]
                        go_simp
                        refine hK _ _ ?_ hS ⟨fun h => absurd h (by decide), fun h => absurd h (by decide), fun h8 h10 => ((fun w => trivial) W)⟩ _ rfl rfl
                        first | rfl | go_simp | simp
                      · -- 1: Op.move (Operand.tmp 16)
                        intro l hl vs W dn e1 e2 e3 hS hR hp
                        have f8 : dn 8 = false := e3 8 (by kernel_rfl)
                        have f10 : dn 10 = false := e3 10 (by kernel_rfl)
                        replace hS : (IsW V0 V1 V2 (dn 8) (dn 10)) W := hS
                        rw [f8, f10] at hS
                        have g8 : (dn 8 || ((1 : Nat) == 8)) = false := by rw [f8]; rfl
                        have g10 : (dn 10 || ((1 : Nat) == 10)) = false := by rw [f10]; rfl
                        refine OpGoal.imp (S1 := IsW V0 V1 V2 false false) (fun W' h => ?_) ?_
                        · show (IsW V0 V1 V2 (dn 8 || ((1 : Nat) == 8)) (dn 10 || ((1 : Nat) == 10))) W'
                          rw [g8, g10]
                          exact h
                        clear g8 g10 e1 e2 e3
                        obtain rfl : l = [] := hl.symm.trans (by kernel_rfl)
                        clear hp hl
                        refine opgoal (_) (some 118) rfl rfl fun K hK => ?_
                        refine Runs.mk ?_
                        simp only [putAll]
                        go_simp
                        refine hK _ _ ?_ hS ⟨fun h => absurd h (by decide), fun h => absurd h (by decide), fun h8 h10 => ((fun w => trivial) W)⟩ _ rfl rfl
                        first | rfl | go_simp | simp
                      · -- 2: Op.fieldAddr 39 (Operand.tmp 9) 1
                        intro l hl vs W dn e1 e2 e3 hS hR hp
                        have f8 : dn 8 = false := e3 8 (by kernel_rfl)
                        have f10 : dn 10 = false := e3 10 (by kernel_rfl)
                        replace hS : (IsW V0 V1 V2 (dn 8) (dn 10)) W := hS
                        rw [f8, f10] at hS
                        have g8 : (dn 8 || ((2 : Nat) == 8)) = false := by rw [f8]; rfl
                        have g10 : (dn 10 || ((2 : Nat) == 10)) = false := by rw [f10]; rfl
                        refine OpGoal.imp (S1 := IsW V0 V1 V2 false false) (fun W' h => ?_) ?_
                        · show (IsW V0 V1 V2 (dn 8 || ((2 : Nat) == 8)) (dn 10 || ((2 : Nat) == 10))) W'
                          rw [g8, g10]
                          exact h
                        clear g8 g10 e1 e2 e3
                        obtain rfl : l = [] := hl.symm.trans (by kernel_rfl)
                        clear hp hl
                        refine opgoal (_) (some 119) rfl rfl fun K hK => ?_
                        refine Runs.mk ?_
                        simp only [putAll]
                        go_simp
                        refine hK _ _ ?_ hS ⟨fun h => absurd h (by decide), fun h => absurd h (by decide), fun h8 h10 => ((fun w => trivial) W)⟩ _ rfl rfl
                        first | rfl | go_simp | simp
                      · -- 3: Op.load 3 (Operand.tmp 119)
                        intro l hl vs W dn e1 e2 e3 hS hR hp
                        have f8 : dn 8 = false := e3 8 (by kernel_rfl)
                        have f10 : dn 10 = false := e3 10 (by kernel_rfl)
                        replace hS : (IsW V0 V1 V2 (dn 8) (dn 10)) W := hS
                        rw [f8, f10] at hS
                        have g8 : (dn 8 || ((3 : Nat) == 8)) = false := by rw [f8]; rfl
                        have g10 : (dn 10 || ((3 : Nat) == 10)) = false := by rw [f10]; rfl
                        refine OpGoal.imp (S1 := IsW V0 V1 V2 false false) (fun W' h => ?_) ?_
                        · show (IsW V0 V1 V2 (dn 8 || ((3 : Nat) == 8)) (dn 10 || ((3 : Nat) == 10))) W'
                          rw [g8, g10]
                          exact h
                        clear g8 g10 e1 e2 e3
                        obtain rfl : l = [(2, 119)] := hl.symm.trans (by kernel_rfl)
                        have p2 : vs 2 = _ := hp 2 (by decide) (by decide)
                        clear hp hl
                        refine opgoal (_) (some 120) rfl rfl fun K hK => ?_
                        obtain ⟨e0, e1, e2, e3⟩ := HOC.out W (HT3.out.keep hS)
                        refine Runs.mk ?_
                        simp only [putAll]
                        go_simp
                        refine hK _ _ ?_ hS ⟨fun h => absurd h (by decide), fun h => absurd h (by decide), fun h8 h10 => ((fun w => trivial) W)⟩ _ rfl rfl
                        first | rfl | go_simp | simp
                      · -- 4: Op.indexAddr 22 (Operand.tmp 118) (Operand.tmp 120)
                        intro l hl vs W dn e1 e2 e3 hS hR hp
                        have f8 : dn 8 = false := e3 8 (by kernel_rfl)
                        have f10 : dn 10 = false := e3 10 (by kernel_rfl)
                        replace hS : (IsW V0 V1 V2 (dn 8) (dn 10)) W := hS
                        rw [f8, f10] at hS
                        have g8 : (dn 8 || ((4 : Nat) == 8)) = false := by rw [f8]; rfl
                        have g10 : (dn 10 || ((4 : Nat) == 10)) = false := by rw [f10]; rfl
                        refine OpGoal.imp (S1 := IsW V0 V1 V2 false false) (fun W' h => ?_) ?_
                        · show (IsW V0 V1 V2 (dn 8 || ((4 : Nat) == 8)) (dn 10 || ((4 : Nat) == 10))) W'
                          rw [g8, g10]
                          exact h
                        clear g8 g10 e1 e2 e3
                        obtain rfl : l = [(1, 118), (2, 119), (3, 120)] := hl.symm.trans (by kernel_rfl)
                        have p1 : vs 1 = _ := hp 1 (by decide) (by decide)
                        have p3 : vs 3 = _ := hp 3 (by decide) (by decide)
                        clear hp hl
                        refine opgoal (_) (some 121) rfl rfl fun K hK => ?_
                        have hil := HIL.out
                        refine Runs.mk ?_
                        simp only [putAll]
                        go_simp
                        refine hK _ _ ?_ hS ⟨fun h => absurd h (by decide), fun h => absurd h (by decide), fun h8 h10 => ((fun w => trivial) W)⟩ _ rfl rfl
                        first | rfl | go_simp | simp
                      · -- 5: Op.load 29 (Operand.tmp 121)
                        intro l hl vs W dn e1 e2 e3 hS hR hp
                        have f8 : dn 8 = false := e3 8 (by kernel_rfl)
                        have f10 : dn 10 = false := e3 10 (by kernel_rfl)
                        replace hS : (IsW V0 V1 V2 (dn 8) (dn 10)) W := hS
                        rw [f8, f10] at hS
                        have g8 : (dn 8 || ((5 : Nat) == 8)) = false := by rw [f8]; rfl
                        have g10 : (dn 10 || ((5 : Nat) == 10)) = false := by rw [f10]; rfl
                        refine OpGoal.imp (S1 := IsW V0 V1 V2 false false) (fun W' h => ?_) ?_
                        · show (IsW V0 V1 V2 (dn 8 || ((5 : Nat) == 8)) (dn 10 || ((5 : Nat) == 10))) W'
                          rw [g8, g10]
                          exact h
                        clear g8 g10 e1 e2 e3
                        obtain rfl : l = [(1, 118), (2, 119), (3, 120), (4, 121)] := hl.symm.trans (by kernel_rfl)
                        have p4 : vs 4 = _ := hp 4 (by decide) (by decide)
                        clear hp hl
                        refine opgoal (_) (some 122) rfl rfl fun K hK => ?_
                        obtain ⟨q0, q1, q2, q3⟩ := HPX.out W (HT3.out.keep hS)
                        refine Runs.mk ?_
                        simp only [putAll]
                        go_simp
                        refine hK _ _ ?_ hS ⟨fun h => absurd h (by decide), fun h => absurd h (by decide), fun h8 h10 => ((fun w => trivial) W)⟩ _ rfl rfl
                        first | rfl | go_simp | simp
                      · -- 6: Op.lookup 37 (Operand.tmp 117) (Operand.tmp 122) false
                        intro l hl vs W dn e1 e2 e3 hS hR hp
                        have f8 : dn 8 = dn 8 := rfl
                        have f10 : dn 10 = false := e3 10 (by kernel_rfl)
                        replace hS : (IsW V0 V1 V2 (dn 8) (dn 10)) W := hS
                        rw [f10] at hS
                        have g8 : (dn 8 || ((6 : Nat) == 8)) = dn 8 := Bool.or_false _
                        have g10 : (dn 10 || ((6 : Nat) == 10)) = false := by rw [f10]; rfl
                        refine OpGoal.imp (S1 := IsW V0 V1 V2 (dn 8) false) (fun W' h => ?_) ?_
                        · show (IsW V0 V1 V2 (dn 8 || ((6 : Nat) == 8)) (dn 10 || ((6 : Nat) == 10))) W'
                          rw [g8, g10]
                          exact h
                        clear g8 g10 e1 e2 e3
                        obtain rfl : l = [(0, 117), (1, 118), (2, 119), (3, 120), (4, 121), (5, 122)] := hl.symm.trans (by kernel_rfl)
                        have p0 : vs 0 = _ := hp 0 (by decide) (by decide)
                        have p5 : vs 5 = _ := hp 5 (by decide) (by decide)
                        clear hp hl
                        refine opgoal (_) (some 123) rfl rfl fun K hK => ?_
                        have hlk := HT3.out.look hS
                        dsimp only [pv] at hlk
                        refine Runs.mk ?_
                        simp only [putAll]
                        go_simp
                        refine hK _ _ ?_ hS ⟨fun h => absurd h (by decide), fun h => absurd h (by decide), fun h8 h10 => ((fun w => trivial) W)⟩ _ rfl rfl
                        first | rfl | go_simp | simp
                      · -- 7: Op.binOp BinOp.add 3 (Operand.tmp 123) (Operand.const (Value.int IntKind.i64 1)) 3
                        intro l hl vs W dn e1 e2 e3 hS hR hp
                        have f8 : dn 8 = dn 8 := rfl
                        have f10 : dn 10 = false := e3 10 (by kernel_rfl)
                        replace hS : (IsW V0 V1 V2 (dn 8) (dn 10)) W := hS
                        rw [f10] at hS
                        have g8 : (dn 8 || ((7 : Nat) == 8)) = dn 8 := Bool.or_false _
                        have g10 : (dn 10 || ((7 : Nat) == 10)) = false := by rw [f10]; rfl
                        refine OpGoal.imp (S1 := IsW V0 V1 V2 (dn 8) false) (fun W' h => ?_) ?_
                        · show (IsW V0 V1 V2 (dn 8 || ((7 : Nat) == 8)) (dn 10 || ((7 : Nat) == 10))) W'
                          rw [g8, g10]
                          exact h
                        clear g8 g10 e1 e2 e3
                        obtain rfl : l = [(0, 117), (1, 118), (2, 119), (3, 120), (4, 121), (5, 122), (6, 123)] := hl.symm.trans (by kernel_rfl)
                        have p6 : vs 6 = _ := hp 6 (by decide) (by decide)
                        clear hp hl
                        refine opgoal (_) (some 124) rfl rfl fun K hK => ?_
                        have hwr := HWR.out
                        refine Runs.mk ?_
                        simp only [putAll]
                        go_simp
                        refine hK _ _ ?_ hS ⟨(fun h => absurd h (by decide)), (fun h => absurd h (by decide)), fun h1 h2 => trivial⟩ _ rfl rfl
                        first | rfl | (rw [hwr]) | (simp only [IntKind.wrap_i64] at hwr; rw [hwr])
                      · -- 8: Op.mapEntry 37 (Operand.tmp 117) (Operand.tmp 122)
                        intro l hl vs W dn e1 e2 e3 hS hR hp
                        have f8 : dn 8 = false := e1
                        have f10 : dn 10 = false := e3 10 (by kernel_rfl)
                        replace hS : (IsW V0 V1 V2 (dn 8) (dn 10)) W := hS
                        rw [f8, f10] at hS
                        have g8 : (dn 8 || ((8 : Nat) == 8)) = true := by rw [f8]; rfl
                        have g10 : (dn 10 || ((8 : Nat) == 10)) = false := by rw [f10]; rfl
                        refine OpGoal.imp (S1 := IsW V0 V1 V2 true false) (fun W' h => ?_) ?_
                        · show (IsW V0 V1 V2 (dn 8 || ((8 : Nat) == 8)) (dn 10 || ((8 : Nat) == 10))) W'
                          rw [g8, g10]
                          exact h
                        clear g8 g10 e1 e2 e3
                        obtain rfl : l = [(0, 117), (1, 118), (2, 119), (3, 120), (4, 121), (5, 122)] := hl.symm.trans (by kernel_rfl)
                        have p0 : vs 0 = _ := hp 0 (by decide) (by decide)
                        have p5 : vs 5 = _ := hp 5 (by decide) (by decide)
                        clear hp hl
                        refine opgoal (_) (some 125) rfl rfl fun K hK => ?_
                        have hen := HT3.out.entW hS
                        dsimp only [pv] at hen
                        refine Runs.mk ?_
                        simp only [putAll]
                        go_simp
                        exact hK _ _ rfl ⟨rfl⟩ ⟨(fun _ => trivial), (fun h => absurd h (by decide)), fun h1 h2 => trivial⟩ _ rfl rfl
                      · -- 9: Op.extract (Operand.tmp 125) 1
                        intro l hl vs W dn e1 e2 e3 hS hR hp
                        have f8 : dn 8 = true := e2 8 (by kernel_rfl)
                        have f10 : dn 10 = false := e3 10 (by kernel_rfl)
                        replace hS : (IsW V0 V1 V2 (dn 8) (dn 10)) W := hS
                        rw [f8, f10] at hS
                        have g8 : (dn 8 || ((9 : Nat) == 8)) = true := by rw [f8]; rfl
                        have g10 : (dn 10 || ((9 : Nat) == 10)) = false := by rw [f10]; rfl
                        refine OpGoal.imp (S1 := IsW V0 V1 V2 true false) (fun W' h => ?_) ?_
                        · show (IsW V0 V1 V2 (dn 8 || ((9 : Nat) == 8)) (dn 10 || ((9 : Nat) == 10))) W'
                          rw [g8, g10]
                          exact h
                        clear g8 g10 e1 e2 e3
                        obtain rfl : l = [(0, 117), (1, 118), (2, 119), (3, 120), (4, 121), (5, 122), (8, 125)] := hl.symm.trans (by kernel_rfl)
                        have p8 : vs 8 = _ := hp 8 (by decide) (by decide)
                        clear hp hl
                        refine opgoal (_) (some 126) rfl rfl fun K hK => ?_
                        refine Runs.mk ?_
                        simp only [putAll]
                        go_simp
                        refine hK _ _ ?_ hS ⟨fun h => absurd h (by decide), fun h => absurd h (by decide), fun h8 h10 => ((fun w => trivial) W)⟩ _ rfl rfl
                        first | rfl | go_simp | simp
                      · -- 10: Op.entryStore 37 (Operand.tmp 117) (Operand.tmp 126) (Operand.tmp 124)
                        intro l hl vs W dn e1 e2 e3 hS hR hp
                        have f8 : dn 8 = true := e2 8 (by kernel_rfl)
                        have f10 : dn 10 = false := e1
                        replace hS : (IsW V0 V1 V2 (dn 8) (dn 10)) W := hS
                        rw [f8, f10] at hS
                        have g8 : (dn 8 || ((10 : Nat) == 8)) = true := by rw [f8]; rfl
                        have g10 : (dn 10 || ((10 : Nat) == 10)) = true := by rw [f10]; rfl
                        refine OpGoal.imp (S1 := IsW V0 V1 V2 true true) (fun W' h => ?_) ?_
                        · show (IsW V0 V1 V2 (dn 8 || ((10 : Nat) == 8)) (dn 10 || ((10 : Nat) == 10))) W'
                          rw [g8, g10]
                          exact h
                        clear g8 g10 e1 e2 e3
                        obtain rfl : l = [(0, 117), (1, 118), (2, 119), (3, 120), (4, 121), (5, 122), (6, 123), (7, 124), (8, 125), (9, 126)] := hl.symm.trans (by kernel_rfl)
                        have p0 : vs 0 = _ := hp 0 (by decide) (by decide)
                        have p7 : vs 7 = _ := hp 7 (by decide) (by decide)
                        have p9 : vs 9 = _ := hp 9 (by decide) (by decide)
                        clear hp hl
                        refine opgoal (_) (none) rfl rfl fun K hK => ?_
                        have hst := HT3.out.stoW hS
                        refine Runs.mk ?_
                        simp only [putAll]
                        go_simp
                        exact hK undef _ trivial ⟨rfl⟩ ⟨(fun h => absurd h (by decide)), (fun _ => trivial), fun h1 h2 => trivial⟩ _ rfl rfl
                    · intro l hl vs W dn hd hS hR hp
                      replace hS : (IsW V0 V1 V2 (dn 8) (dn 10)) W := hS
                      rw [hd 8 (by decide), hd 10 (by decide)] at hS
                      obtain rfl : l = [(0, 117), (1, 118), (2, 119), (3, 120), (4, 121), (5, 122), (6, 123), (7, 124), (8, 125), (9, 126)] := hl.symm.trans (by kernel_rfl)
                      have p0 : vs 0 = _ := hp 0 (by decide) (by decide)
                      have p1 : vs 1 = _ := hp 1 (by decide) (by decide)
                      have p2 : vs 2 = _ := hp 2 (by decide) (by decide)
                      have p3 : vs 3 = _ := hp 3 (by decide) (by decide)
                      have p4 : vs 4 = _ := hp 4 (by decide) (by decide)
                      have p5 : vs 5 = _ := hp 5 (by decide) (by decide)
                      have p6 : vs 6 = _ := hp 6 (by decide) (by decide)
                      have p7 : vs 7 = _ := hp 7 (by decide) (by decide)
                      have p8 : vs 8 = _ := hp 8 (by decide) (by decide)
                      have p9 : vs 9 = _ := hp 9 (by decide) (by decide)
                      have p10 : (fun v W => True) (vs 10) W := hp 10 (by decide) (by decide)
                      dsimp only at p10
                      clear hp hl
                      simp only [putAll_mk, setAll, List.setIfInBounds_toArray, List.set_cons_succ, List.set_cons_zero, p0, p1, p2, p3, p4, p5, p6, p7, p8, p9]
                      have HW := Lib.hid hS
                      clear hS hR hS0 p10
                      rw [show W = V2 from HW.out.e]
                      go_wp2_with fail
                      go_meet
                      exact HREL.out
                  · have HDB := Lib.hid (np_double_full hn6 ix hix (by omega))
                    have HREL := Lib.hid (HFIN.out w6 nn f m g M Ls (hn6.sub (by simp)) (by omega) HCN.out.1 (by have := HCN.out.2.1; omega) (HCN.out.2.2.mono (by omega)) hL256 HGL.out)
                    clear hn6 hqs hrd k0 k1 k2 hin hix hfull
                    go_wp2_with fail
                    refine HDB.out.mono ?_
                    rintro e w7 ⟨rfl, rfl⟩
                    clear c0 c1 c2 c3
                    go_wp2_with fail
                    go_meet
                    exact HREL.out
                · have HDB := Lib.hid (np_double_no hn6 oa hin)
                  have HREL := Lib.hid (HFIN.out w6 nn f m g M Ls (hn6.sub (by simp)) (by omega) HCN.out.1 (by have := HCN.out.2.1; omega) (HCN.out.2.2.mono (by omega)) hL256 HGL.out)
                  clear hn6 hqs hrd k0 k1 k2 hin
                  go_wp2_with fail
                  refine HDB.out.mono ?_
                  rintro e w7 ⟨rfl, rfl⟩
                  clear c0 c1 c2 c3
                  go_wp2_with fail
                  go_meet
                  exact HREL.out
              · have e2 : (ok == 2) = false := by simpa using k2
                have hnn9 : nn < 1000000 := by have := hgd.out; omega
                by_cases k3 : ok = 3
                · have e3 : (ok == 3) = true := by simpa using k3
                  have HCU := np_cut HNP.out hnn9 oa oB hls.out.2.2.2.2.1 hls.out.2.2.2.2.2
                  obtain ⟨F, hF⟩ : ∃ F, (if okW N oa oB then upd f oa oB true else f) = F := ⟨_, rfl⟩
                  obtain ⟨rv, hrv⟩ : ∃ rv : Int, (if okW N oa oB then (0 : Int) else 1) = rv := ⟨_, rfl⟩
                  rw [hF, hrv] at HCU
                  clear hF hrv
                  have HCU := Lib.hid HCU
                  clear k0 k1 k2 k3
                  go_wp2_with fail
                  refine HCU.out.mono ?_
                  rintro e w6 ⟨rfl, hn6⟩
                  have HREL := Lib.hid (HFIN.out _ _ _ m g M Ls hn6 (Nat.le_refl _) HCN.out.1 (by have := HCN.out.2.1; omega) (HCN.out.2.2.mono (by omega)) hL256 HGL.out)
                  clear hn6 c0 c1 c2 c3
                  go_wp2_with fail
                  go_meet
                  exact HREL.out
                · have e3 : (ok == 3) = false := by simpa using k3
                  by_cases k4 : ok = 4
                  · have e4 : (ok == 4) = true := by simpa using k4
                    have HCU := np_heal HNP.out hnn9 oa oB hls.out.2.2.2.2.1 hls.out.2.2.2.2.2
                    obtain ⟨F, hF⟩ : ∃ F, (if okW N oa oB then upd f oa oB false else f) = F := ⟨_, rfl⟩
                    obtain ⟨rv, hrv⟩ : ∃ rv : Int, (if okW N oa oB then (0 : Int) else 1) = rv := ⟨_, rfl⟩
                    rw [hF, hrv] at HCU
                    clear hF hrv
                    have HCU := Lib.hid HCU
                    clear k0 k1 k2 k3 k4
                    go_wp2_with fail
                    refine HCU.out.mono ?_
                    rintro e w6 ⟨rfl, hn6⟩
                    have HREL := Lib.hid (HFIN.out _ _ _ m g M Ls hn6 (Nat.le_refl _) HCN.out.1 (by have := HCN.out.2.1; omega) (HCN.out.2.2.mono (by omega)) hL256 HGL.out)
                    clear hn6 c0 c1 c2 c3
                    go_wp2_with fail
                    go_meet
                    exact HREL.out
                  · have e4 : (ok == 4) = false := by simpa using k4
                    have HREL := Lib.hid (HFIN.out _ nn f m g M Ls HNP.out (by omega) HCN.out.1 (by have := HCN.out.2.1; omega) (HCN.out.2.2.mono (by omega)) hL256 HGL.out)
                    clear k0 k1 k2 k3 k4 c0 c1 c2 c3
                    go_wp2_with fail
                    go_meet
                    exact HREL.out
        case rest =>
          obtain ⟨Ls', hon2, hlen2⟩ := hcut
          obtain ⟨nn', f', m', g', M', hnp', -⟩ := hon2.out
          have HLE := Lib.hid (np_len hnp')
          obtain ⟨l2, hl2⟩ : ∃ l2, Hid (Ls'.length = l2) := ⟨_, Lib.hid rfl⟩
          rw [hl2.out] at HLE hlen2
          have hd1 : decide ((256 : Int) < (l2 : Int)) = false := by simp; omega
          have hd2 : decide (256 < l2) = false := by simp; omega
          clear hnp'
          go_wp2_with fail
          refine HLE.out.mono ?_
          rintro e w9 ⟨rfl, rfl⟩
          go_wp2_with fail
          go_roundw
          case rel => exact ⟨k + 1, Ls', by omega, by go_num, hon2, by rw [hl2.out]; exact hlen2⟩
          case measure => simp [intOf]; omega
      · obtain rfl : k = n := by omega
        obtain ⟨nn, f, m, g, M, hnp, -⟩ := hon.out
        have HB := Lib.hid hnp.bel
        clear hnp hon
        go_wp2
        go_ret
        exact ⟨rfl, HB.out⟩
theorem only_row (w : World) (a : Int) (s : Sl OpN) (ha : (Lit.int .u8 a).wf = true) (hs : SlOk w 4 48 encN (goodN2 w) s) :
    Calls Try.prog 4 #[.int .u8 a, .slice s.A s.n s.c] w fun e w' => e = .returned (.bool true) ∧ Below w.heap.size w w' := by
  have h1 := bounds_u8 ha
  obtain ⟨m, rfl⟩ : ∃ k : Nat, a = (k : Int) := ⟨a.toNat, by omega⟩
  exact only_walk w m (by omega) s.A s.n s.c s.xs (nscript_of hs)
end Go.Proofs.Ytbdcgfdchkbcnaa.Ne

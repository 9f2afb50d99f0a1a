/- net: Send of any packets. -/
import Derived.Test.YtbdcgfdchkbcnaaNeJ
namespace Go.Proofs.Ytbdcgfdchkbcnaa.Ne
open Go.RowKit Go.Proofs.Ytbdcgfdchkbcnaa.L Go.Proofs.Ytbdcgfdchkbcnaa.O Go.Proofs.Ytbdcgfdchkbcnaa.R Go.Proofs.Ytbdcgfdchkbcnaa.A Go.Proofs.Ytbdcgfdchkbcnaa.S Go.Proofs.Ytbdcgfdchkbcnaa.T Go.Proofs.Ytbdcgfdchkbcnaa.C Go.Proofs.Ytbdcgfdchkbcnaa.G Go.Proofs.Ytbdcgfdchkbcnaa.E
set_option linter.unusedVariables false
set_option linter.unusedSimpArgs false

def sendL (nodes : Nat) (f : Int → Int → Bool) : List Pkt → List Pkt → List Pkt × Nat
  | [], L => (L, 0)
  | p :: ps, L => if wholeB nodes f p.a p.b && decide (L.length < 256) then sendL nodes f ps (L ++ [p]) else ((sendL nodes f ps L).1, (sendL nodes f ps L).2 + 1)
/-- what may have changed. -/
structure ChN (b : Nat) (v : Value) (w : World) (v' : Value) (w' : World) : Prop where
  keep : Keep (b :: v.ownBlock.toList) w w'
  row : v'.ownBlock = v.ownBlock ∨ ∀ k, v'.ownBlock = some k → w.heap.size ≤ k
theorem ChN.refl (b : Nat) (v : Value) (w : World) : ChN b v w v w := ⟨Keep.refl _ _, .inl rfl⟩
theorem ChN.below {b : Nat} {v v1 : Value} {w w1 w2 : World} (h : ChN b v w v1 w1) (hb : Below w1.heap.size w1 w2) : ChN b v w v1 w2 := ⟨h.keep.trans (.of_below hb), h.row⟩
theorem ChN.trans {b : Nat} {v v1 v2 : Value} {w w1 w2 : World} (h : ChN b v w v1 w1) (hk : Keep (b :: v1.ownBlock.toList) w1 w2) (hr : v2.ownBlock = v1.ownBlock ∨ ∀ k, v2.ownBlock = some k → w1.heap.size ≤ k) : ChN b v w v2 w2 := by
  have hs := h.keep.size
  refine ⟨⟨hk.os.trans h.keep.os, hk.tape.trans h.keep.tape, hk.output.trans h.keep.output, Nat.le_trans hs hk.size, fun j hj hn => (hk.block j (Nat.lt_of_lt_of_le hj hs) fun hm => ?_).trans (h.keep.block j hj hn)⟩, ?_⟩
  · rcases List.mem_cons.1 hm with e | hm
    · exact hn (by simp [e])
    · have hm' : v1.ownBlock = some j := by simpa using hm
      rcases h.row with e | e
      · exact hn (by simp [← e, hm'])
      · have := e j hm'; omega
  · rcases hr with e | e
    · rw [e]; exact h.row
    · exact .inr fun k hk' => Nat.le_trans hs (e k hk')
set_option maxHeartbeats 8000000 in
set_option maxRecDepth 100000 in
theorem send_any (b mb nodes n : Nat) (f : Int → Int → Bool) (v : Value) (Ls ps : List Pkt) (A : Option Addr) (N c : Nat) (w : World) (h : Nt w b mb nodes n f v (Ls.flatMap encP) Ls.length) (hk : Ls.length ≤ 256) (hrd : RdE w A N 4 (ps.map encP)) (hgd : ∀ p ∈ ps, goodP p)
    (hoff : 0 < N → ∀ o, A = some o → o.block < w.heap.size ∧ o.block ≠ b ∧ v.ownBlock ≠ some o.block) :
    Calls Try.prog 17 #[.pointer (some ⟨b, 0, none⟩), .slice A N c] w fun e w' => e = .returned (.int .i64 ((sendL nodes f ps Ls).2 : Int)) ∧ ∃ v', Nt w' b mb nodes n f v' ((sendL nodes f ps Ls).1.flatMap encP) (sendL nodes f ps Ls).1.length ∧ (sendL nodes f ps Ls).1.length ≤ 256 ∧ ChN b v w v' w' := by
  have hn9 := hrd.2.1
  have HL : Hid (ps.length = N) := Lib.hid (by have := hrd.1; simpa using this)
  have HRD : Hid (∀ v' w', ChN b v w v' w' → RdE w' A N 4 (ps.map encP)) := Lib.hid fun v' w' hc => hrd.keep hc.keep fun hN o hA hm => by
    obtain ⟨_, h2, h3⟩ := hoff hN o hA
    rcases List.mem_cons.1 hm with e | hm
    · exact h2 e
    · exact h3 (by simpa using hm)
  have HGD := Lib.hid hgd
  obtain ⟨cF, hcF⟩ : ∃ cF, Hid ((sendL nodes f ps Ls).2 = cF) := ⟨_, Lib.hid rfl⟩
  obtain ⟨LF, hLF⟩ : ∃ LF, Hid ((sendL nodes f ps Ls).1 = LF) := ⟨_, Lib.hid rfl⟩
  rw [hcF.out, hLF.out]
  have HH := Lib.hid (And.intro h hk)
  clear h hk hrd hgd hoff
  go_enter Try.func17, Try.ntmps17
  go_wp2
  go_loopw [5, 10] (fun u i wr => ∃ (kk m : Nat) (Lk : List Pkt) (vk : Value), kk ≤ N ∧ m ≤ kk ∧ i = .int .i64 kk ∧ u = .int .i64 m ∧ Nt wr b mb nodes n f vk (Lk.flatMap encP) Lk.length ∧ Lk.length ≤ 256 ∧ ChN b v w vk wr ∧ Hid ((sendL nodes f (ps.drop kk) Lk).1 = LF ∧ m + (sendL nodes f (ps.drop kk) Lk).2 = cF)) (fun _ i _ => N - (intOf i).toNat)
  case atStart => exact ⟨0, 0, Ls, v, by omega, by omega, rfl, rfl, HH.out.1, HH.out.2, ChN.refl _ _ _, Lib.hid ⟨hLF.out, by rw [Nat.zero_add]; exact hcF.out⟩⟩
  case round =>
    obtain ⟨kk, m, Lk, VV, hkN, hmk, rfl, rfl, hnt, hl256, hch, hF⟩ := hrel
    by_cases hlt : kk < N
    · have hkl : kk < ps.length := by have := HL.out; omega
      obtain ⟨⟨px, py, pS, pq⟩, hp⟩ : ∃ p : Pkt, Hid (ps[kk] = p) := ⟨_, Lib.hid rfl⟩
      obtain ⟨ab, ao, hA, c0, c1, c2, c3⟩ := pkt_at (HRD.out _ _ hch) kk hlt hkl _ hp.out
      subst hA
      dsimp only at c0 c1 c2 c3
      have hgp := HGD.out ⟨px, py, pS, pq⟩ (by rw [← hp.out]; exact List.getElem_mem _)
      have hdr : ps.drop kk = ⟨px, py, pS, pq⟩ :: ps.drop (kk + 1) := by rw [← hp.out]; exact List.drop_eq_getElem_cons hkl
      have hF' := hF.out
      rw [hdr] at hF'
      simp only [sendL] at hF'
      obtain ⟨k, hk⟩ : ∃ k, Lk.length = k := ⟨_, rfl⟩
      obtain ⟨ps', hps⟩ : ∃ ps' : ByteArray, pS = ps' := ⟨_, rfl⟩
      have HWH : Hid (∀ wx, Nt wx b mb nodes n f VV (Lk.flatMap encP) k → Calls Try.prog 63 #[.pointer (some ⟨b, 0, none⟩), .int .i64 px, .int .i64 py] wx fun e w' => e = .returned (.bool (wholeB nodes f px py)) ∧ Below wx.heap.size wx w') := Lib.hid fun wx hn => whole_any b nodes mb n f px py wx hn.cell.1 hn.cell.2.1 hn.map (Go.Proofs.Ytbdcgfdchkbcnaa.Ne.i64_wf hgp.1) (Go.Proofs.Ytbdcgfdchkbcnaa.Ne.i64_wf hgp.2.1)
      obtain ⟨wq, hwq⟩ : ∃ wq, wholeB nodes f px py = wq := ⟨_, rfl⟩
      rw [hwq] at HWH hF'
      rw [hk] at hnt hl256 hF'
      obtain ⟨xb, hxb⟩ : ∃ xb, wr.heap.size = xb := ⟨_, rfl⟩
      obtain ⟨W, hW⟩ : ∃ W, wr.alloc (.cells #[.int .i64 px, .int .i64 py, .string pS, .bool pq] PT) = W := ⟨_, rfl⟩
      have hb0 : Below wr.heap.size wr W := by rw [← hW]; exact below_alloc _ _
      have HX : Hid (W.heap[xb]? = some (.cells #[.int .i64 px, .int .i64 py, .string pS, .bool pq] PT (0, 0))) := Lib.hid (by rw [← hW, ← hxb]; exact heap_alloc_new _ _)
      have hN' := hnt.below hb0
      obtain ⟨VA, vc, hv⟩ := own_form4 hnt.own
      have hVV : Hid (VV = .slice VA k vc) := Lib.hid (own_len hnt.own hv)
      have hltb := (Array.getElem?_eq_some_iff.1 hnt.blk).1
      have hgb : ∀ j, VV.ownBlock = some j → b + 1 ≤ j ∧ j < wr.heap.size := fun j hj => own_lt hnt.own j hj
      have HPS : Hid (∀ W', Below W.heap.size W W' → PushN b mb nodes n f W'.heap.size xb VV (Lk.flatMap encP) k px py pS pq false false W'.drew) := Lib.hid fun W' hb => by
        have hn' := hN'.below hb
        have hs' : xb < W'.heap.size := Nat.lt_of_lt_of_le (Array.getElem?_eq_some_iff.1 HX.out).1 hb.size
        exact ⟨fun _ => ⟨hn'.blk, hn'.cell.2.2.1⟩, fun _ => hn'.own, hn'.map.keep (.of_below (S := []) (below_drewN 1 W')) (by simp), (hb.block xb (Array.getElem?_eq_some_iff.1 HX.out).1).trans HX.out, (fun h => by cases h), Nat.le_refl _, by omega, hnt.mb, by omega, fun hh => by have := (hgb _ hh).2; omega, fun j hj => (hgb j hj).1⟩
      have HN := Lib.hid hN'
      have HB0 := Lib.hid hb0
      have HW0 := Lib.hid hW
      have HXB := Lib.hid hxb
      have HCH := Lib.hid hch
      have HNT := Lib.hid hnt
      clear hnt hch hF hdr hp hgp hb0 hN' hv hltb hgb hW hxb hwq hps ps'
      cases wq with
      | false =>
        simp only [Bool.false_and, Bool.false_eq_true, if_false] at hF'
        have HF := Lib.hid hF'
        have hk256 : Hid (k ≤ 256) := Lib.hid hl256
        have HREL : Hid (∀ W', Below W.heap.size W W' → Nt W' b mb nodes n f VV (Lk.flatMap encP) Lk.length ∧ Lk.length ≤ 256 ∧ ChN b v w VV W' ∧ Hid ((sendL nodes f (ps.drop (kk + 1)) Lk).1 = LF ∧ m + 1 + (sendL nodes f (ps.drop (kk + 1)) Lk).2 = cF)) := Lib.hid fun W' hb => ⟨by rw [hk]; exact HN.out.below hb, by omega, HCH.out.below (below2 HB0.out hb), Lib.hid ⟨HF.out.1, by have := HF.out.2; omega⟩⟩
        clear hF' hk
        go_wp2_with fail
        rw [HW0.out, HXB.out]
        have hS0 : Below W.heap.size W W.drew := below_drewN 1 W
        refine wp_region_one (fun W' => Below W.heap.size W W') (fun u v => Below u.heap.size u v) (fun a i => match i with
            | 0 => (fun v _ => v = .pointer (some ⟨b, 0, none⟩))
            | 1 => (fun v _ => v = .bool false)
            | 2 => (fun v _ => v = .bool false)
            | 3 => (fun v _ => v = .pointer (some ⟨b, 0, none⟩))
            | 4 => (fun v _ => v = .pointer (some ⟨b, 0, none⟩))
            | 5 => (fun v _ => v = .pointer (some ⟨b, 0, none⟩))
            | 6 => (fun v _ => v = .pointer (some ⟨xb, 0, none⟩))
            | 7 => (fun v _ => v = .int .i64 px)
            | 8 => (fun v _ => v = .pointer (some ⟨xb, 1, none⟩))
            | 9 => (fun v _ => v = .int .i64 py)
            | 10 => (fun v _ => v = .bool false)
            | 11 => (fun v _ => v = .bool true)
            | 12 => (fun v _ => v = .bool true)
            | 13 => (fun v _ => v = .bool true)
            | 14 => (fun v _ => v = undef)
            | 15 => (fun v _ => v = undef)
            | 16 => (fun v _ => v = undef)
            | 17 => (fun v _ => v = undef)
            | 18 => (fun v _ => v = undef)
            | 19 => (fun v _ => v = undef)
            | 20 => (fun v _ => v = .bool true)
            | _ => (fun _ _ => True)) #[0, 1, 3, 7, 15, 31, 7, 71, 7, 263, 1023, 2047, 4095, 8191, 16383, 32767, 65535, 131071, 262143, 524287, 1048575] #[0, 1, 2, 4, 12, 20, 4, 68, 4, 260, 676, 1028, 2052, 4096, 8192, 24576, 40960, 73728, 139264, 270336, 532480] 2097151 (by kernel_rfl) 21 rfl (fun m hm => by subst hm; kernel_rfl) (by kernel_rfl) (fun w => Below.refl _ w) (fun u v w h1 h2 => below2 h1 h2) ?_ (hS0) ?_ ?_
        · intro i hi
          rcases (by omega : i = 0 ∨ i = 1 ∨ i = 2 ∨ i = 3 ∨ i = 4 ∨ i = 5 ∨ i = 6 ∨ i = 7 ∨ i = 8 ∨ i = 9 ∨ i = 10 ∨ i = 11 ∨ i = 12 ∨ i = 13 ∨ i = 14 ∨ i = 15 ∨ i = 16 ∨ i = 17 ∨ i = 18 ∨ i = 19 ∨ i = 20) with rfl | rfl | rfl | rfl | rfl | rfl | rfl | rfl | rfl | rfl | rfl | rfl | rfl | rfl | rfl | rfl | rfl | rfl | rfl | rfl | rfl
          · exact fun v w w' h hr => by exact h
          · exact fun v w w' h hr => by exact h
          · exact fun v w w' h hr => by exact h
          · exact fun v w w' h hr => by exact h
          · exact fun v w w' h hr => by exact h
          · exact fun v w w' h hr => by exact h
          · exact fun v w w' h hr => by exact h
          · exact fun v w w' h hr => by exact h
          · exact fun v w w' h hr => by exact h
          · exact fun v w w' h hr => by exact h
          · exact fun v w w' h hr => by exact h
          · exact fun v w w' h hr => by exact h
          · exact fun v w w' h hr => by exact h
          · exact fun v w w' h hr => by exact h
          · exact fun v w w' h hr => by exact h
          · exact fun v w w' h hr => by exact h
          · exact fun v w w' h hr => by exact h
          · exact fun v w w' h hr => by exact h
          · exact fun v w w' h hr => by exact h
          · exact fun v w w' h hr => by exact h
          · exact fun v w w' h hr => by exact h
        · intro i hi
          rcases (by omega : i = 0 ∨ i = 1 ∨ i = 2 ∨ i = 3 ∨ i = 4 ∨ i = 5 ∨ i = 6 ∨ i = 7 ∨ i = 8 ∨ i = 9 ∨ i = 10 ∨ i = 11 ∨ i = 12 ∨ i = 13 ∨ i = 14 ∨ i = 15 ∨ i = 16 ∨ i = 17 ∨ i = 18 ∨ i = 19 ∨ i = 20) with rfl | rfl | rfl | rfl | rfl | rfl | rfl | rfl | rfl | rfl | rfl | rfl | rfl | rfl | rfl | rfl | rfl | rfl | rfl | rfl | rfl
          · -- 0: Op.move (Operand.tmp 0)
            intro l hl vs W hS hR hp
            obtain rfl : l = [] := hl.symm.trans (by kernel_rfl)
            clear hp hl
            refine opgoal (_) (some 14) rfl rfl fun K hK => ?_
            refine Runs.mk ?_
            simp only [putAll]
            go_simp
            refine hK _ _ ?_ hS ((fun w => Below.refl _ w) W) _ rfl rfl
            first | rfl | go_simp | simp
          · -- 1: Op.binOp BinOp.eql 24 (Operand.tmp 14) (Operand.const (Value.pointer none)) 24
            intro l hl vs W hS hR hp
            obtain rfl : l = [(0, 14)] := hl.symm.trans (by kernel_rfl)
            have p0 : vs 0 = _ := hp 0 (by decide) (by decide)
            clear hp hl
            refine opgoal (_) (some 15) rfl rfl fun K hK => ?_
            refine Runs.mk ?_
            simp only [putAll]
            go_simp
            refine hK _ _ ?_ hS ((fun w => Below.refl _ w) W) _ rfl rfl
            first | rfl | go_simp | simp
          · -- 2: Op.move (Operand.tmp 15)
            intro l hl vs W hS hR hp
            obtain rfl : l = [(0, 14), (1, 15)] := hl.symm.trans (by kernel_rfl)
            have p1 : vs 1 = _ := hp 1 (by decide) (by decide)
            clear hp hl
            refine opgoal (_) (some 16) rfl rfl fun K hK => ?_
            refine Runs.mk ?_
            simp only [putAll]
            go_simp
            refine hK _ _ ?_ hS ((fun w => Below.refl _ w) W) _ rfl rfl
            first | rfl | go_simp | simp
          · -- 3: Op.move (Operand.tmp 0)  [(2, 'false')]
            intro l hl vs W hS hR hp
            obtain rfl : l = [(0, 14), (1, 15), (2, 16)] := hl.symm.trans (by kernel_rfl)
            have p2 : vs 2 = _ := hp 2 (by decide) (by decide)
            clear hp hl
            refine opgoal (_) (some 17) rfl rfl fun K hK => ?_
            refine Runs.mk ?_
            simp only [putAll]
            go_simp
            refine hK _ _ ?_ hS ((fun w => Below.refl _ w) W) _ rfl rfl
            first | rfl | go_simp | simp
          · -- 4: Op.nilCheck (Operand.tmp 17)  [(2, 'false')]
            intro l hl vs W hS hR hp
            obtain rfl : l = [(0, 14), (1, 15), (2, 16), (3, 17)] := hl.symm.trans (by kernel_rfl)
            have p2 : vs 2 = _ := hp 2 (by decide) (by decide)
            have p3 : vs 3 = _ := hp 3 (by decide) (by decide)
            clear hp hl
            refine opgoal (_) (some 18) rfl rfl fun K hK => ?_
            refine Runs.mk ?_
            simp only [putAll]
            go_simp
            refine hK _ _ ?_ hS ((fun w => Below.refl _ w) W) _ rfl rfl
            first | rfl | go_simp | simp
          · -- 5: Op.fieldAddr 106 (Operand.tmp 18) 0  [(2, 'false')]
            intro l hl vs W hS hR hp
            obtain rfl : l = [(0, 14), (1, 15), (2, 16), (3, 17), (4, 18)] := hl.symm.trans (by kernel_rfl)
            have p2 : vs 2 = _ := hp 2 (by decide) (by decide)
            have p4 : vs 4 = _ := hp 4 (by decide) (by decide)
            clear hp hl
            refine opgoal (_) (some 19) rfl rfl fun K hK => ?_
            refine Runs.mk ?_
            simp only [putAll]
            go_simp
            refine hK _ _ ?_ hS ((fun w => Below.refl _ w) W) _ rfl rfl
            first | rfl | go_simp | simp
          · -- 6: Op.fieldAddr 29 (Operand.tmp 7) 0  [(2, 'false')]
            intro l hl vs W hS hR hp
            obtain rfl : l = [(0, 14), (1, 15), (2, 16)] := hl.symm.trans (by kernel_rfl)
            have p2 : vs 2 = _ := hp 2 (by decide) (by decide)
            clear hp hl
            refine opgoal (_) (some 20) rfl rfl fun K hK => ?_
            refine Runs.mk ?_
            simp only [putAll]
            go_simp
            refine hK _ _ ?_ hS ((fun w => Below.refl _ w) W) _ rfl rfl
            first | rfl | go_simp | simp
          · -- 7: Op.load 3 (Operand.tmp 20)  [(2, 'false')]
            intro l hl vs W hS hR hp
            obtain rfl : l = [(0, 14), (1, 15), (2, 16), (6, 20)] := hl.symm.trans (by kernel_rfl)
            have p2 : vs 2 = _ := hp 2 (by decide) (by decide)
            have p6 : vs 6 = _ := hp 6 (by decide) (by decide)
            clear hp hl
            refine opgoal (_) (some 21) rfl rfl fun K hK => ?_
            obtain ⟨f0, f1, f2, f3⟩ := pk_cells ((hS.block _ (Array.getElem?_eq_some_iff.1 HX.out).1).trans HX.out)
            refine Runs.mk ?_
            simp only [putAll]
            go_simp
            refine hK _ _ ?_ hS ((fun w => Below.refl _ w) W) _ rfl rfl
            first | rfl | go_simp | simp
          · -- 8: Op.fieldAddr 29 (Operand.tmp 7) 1  [(2, 'false')]
            intro l hl vs W hS hR hp
            obtain rfl : l = [(0, 14), (1, 15), (2, 16)] := hl.symm.trans (by kernel_rfl)
            have p2 : vs 2 = _ := hp 2 (by decide) (by decide)
            clear hp hl
            refine opgoal (_) (some 22) rfl rfl fun K hK => ?_
            refine Runs.mk ?_
            simp only [putAll]
            go_simp
            refine hK _ _ ?_ hS ((fun w => Below.refl _ w) W) _ rfl rfl
            first | rfl | go_simp | simp
          · -- 9: Op.load 3 (Operand.tmp 22)  [(2, 'false')]
            intro l hl vs W hS hR hp
            obtain rfl : l = [(0, 14), (1, 15), (2, 16), (8, 22)] := hl.symm.trans (by kernel_rfl)
            have p2 : vs 2 = _ := hp 2 (by decide) (by decide)
            have p8 : vs 8 = _ := hp 8 (by decide) (by decide)
            clear hp hl
            refine opgoal (_) (some 23) rfl rfl fun K hK => ?_
            obtain ⟨f0, f1, f2, f3⟩ := pk_cells ((hS.block _ (Array.getElem?_eq_some_iff.1 HX.out).1).trans HX.out)
            refine Runs.mk ?_
            simp only [putAll]
            go_simp
            refine hK _ _ ?_ hS ((fun w => Below.refl _ w) W) _ rfl rfl
            first | rfl | go_simp | simp
          · -- 10: Op.call { callee := Callee.value (Operand.func 63), args := #[Operand.tmp 19, Operand.tmp 21, Operand.tmp 23], argTypes := #[104, 3, 3] }  [(2, 'false')]
            intro l hl vs W hS hR hp
            obtain rfl : l = [(0, 14), (1, 15), (2, 16), (3, 17), (4, 18), (5, 19), (6, 20), (7, 21), (8, 22), (9, 23)] := hl.symm.trans (by kernel_rfl)
            have p2 : vs 2 = _ := hp 2 (by decide) (by decide)
            have p5 : vs 5 = _ := hp 5 (by decide) (by decide)
            have p7 : vs 7 = _ := hp 7 (by decide) (by decide)
            have p9 : vs 9 = _ := hp 9 (by decide) (by decide)
            clear hp hl
            refine opgoal (_) (some 24) rfl rfl fun K hK => ?_
            refine Runs.mk ?_
            simp only [putAll]
            go_simp
            refine (HWH.out W (HN.out.below hS)).mono ?_
            rintro e w' ⟨rfl, hb⟩
            go_simp
            exact hK _ _ rfl (below2 hS hb) hb _ rfl rfl
          · -- 11: Op.unOp UnOp.not 4 (Operand.tmp 24)  [(2, 'false')]
            intro l hl vs W hS hR hp
            obtain rfl : l = [(0, 14), (1, 15), (2, 16), (3, 17), (4, 18), (5, 19), (6, 20), (7, 21), (8, 22), (9, 23), (10, 24)] := hl.symm.trans (by kernel_rfl)
            have p2 : vs 2 = _ := hp 2 (by decide) (by decide)
            have p10 : vs 10 = _ := hp 10 (by decide) (by decide)
            clear hp hl
            refine opgoal (_) (some 25) rfl rfl fun K hK => ?_
            refine Runs.mk ?_
            simp only [putAll]
            go_simp
            refine hK _ _ ?_ hS ((fun w => Below.refl _ w) W) _ rfl rfl
            first | rfl | go_simp | simp
          · -- 12: Op.pick (Operand.tmp 16) (Operand.const (Value.bool true)) (Operand.tmp 25)
            intro l hl vs W hS hR hp
            obtain rfl : l = [(0, 14), (1, 15), (2, 16), (3, 17), (4, 18), (5, 19), (6, 20), (7, 21), (8, 22), (9, 23), (10, 24), (11, 25)] := hl.symm.trans (by kernel_rfl)
            have p2 : vs 2 = _ := hp 2 (by decide) (by decide)
            have p11 : vs 11 = _ := hp 11 (by decide) (by decide)
            clear hp hl
            refine opgoal (_) (some 26) rfl rfl fun K hK => ?_
            refine Runs.mk ?_
            simp only [putAll]
            go_simp
            refine hK _ _ ?_ hS ((fun w => Below.refl _ w) W) _ rfl rfl
            first | rfl | go_simp | simp
          · -- 13: Op.move (Operand.tmp 26)
            intro l hl vs W hS hR hp
            obtain rfl : l = [(0, 14), (1, 15), (2, 16), (3, 17), (4, 18), (5, 19), (6, 20), (7, 21), (8, 22), (9, 23), (10, 24), (11, 25), (12, 26)] := hl.symm.trans (by kernel_rfl)
            have p12 : vs 12 = _ := hp 12 (by decide) (by decide)
            clear hp hl
            refine opgoal (_) (some 27) rfl rfl fun K hK => ?_
            refine Runs.mk ?_
            simp only [putAll]
            go_simp
            refine hK _ _ ?_ hS ((fun w => Below.refl _ w) W) _ rfl rfl
            first | rfl | go_simp | simp
          · -- 14: Op.move (Operand.tmp 0)  [(13, 'false')]
            intro l hl vs W hS hR hp
            obtain rfl : l = [(0, 14), (1, 15), (2, 16), (3, 17), (4, 18), (5, 19), (6, 20), (7, 21), (8, 22), (9, 23), (10, 24), (11, 25), (12, 26), (13, 27)] := hl.symm.trans (by kernel_rfl)
            have p13 : vs 13 = _ := hp 13 (by decide) (by decide)
            clear hp hl
            refine opgoal (_) (some 28) rfl rfl fun K hK => ?_
            refine Runs.mk ?_
            simp only [putAll]
            go_simp
            refine hK _ _ ?_ hS ((fun w => Below.refl _ w) W) _ rfl rfl
            first | rfl | go_simp | simp
          · -- 15: Op.nilCheck (Operand.tmp 28)  [(13, 'false')]
            intro l hl vs W hS hR hp
            obtain rfl : l = [(0, 14), (1, 15), (2, 16), (3, 17), (4, 18), (5, 19), (6, 20), (7, 21), (8, 22), (9, 23), (10, 24), (11, 25), (12, 26), (13, 27), (14, 28)] := hl.symm.trans (by kernel_rfl)
            have p13 : vs 13 = _ := hp 13 (by decide) (by decide)
            have p14 : vs 14 = _ := hp 14 (by decide) (by decide)
            clear hp hl
            refine opgoal (_) (some 29) rfl rfl fun K hK => ?_
            refine Runs.mk ?_
            simp only [putAll]
            go_simp
            refine hK _ _ ?_ hS ((fun w => Below.refl _ w) W) _ rfl rfl
            first | rfl | go_simp | simp
          · -- 16: Op.fieldAddr 106 (Operand.tmp 29) 1  [(13, 'false')]
            intro l hl vs W hS hR hp
            obtain rfl : l = [(0, 14), (1, 15), (2, 16), (3, 17), (4, 18), (5, 19), (6, 20), (7, 21), (8, 22), (9, 23), (10, 24), (11, 25), (12, 26), (13, 27), (14, 28), (15, 29)] := hl.symm.trans (by kernel_rfl)
            have p13 : vs 13 = _ := hp 13 (by decide) (by decide)
            have p15 : vs 15 = _ := hp 15 (by decide) (by decide)
            clear hp hl
            refine opgoal (_) (some 30) rfl rfl fun K hK => ?_
            refine Runs.mk ?_
            simp only [putAll]
            go_simp
            refine hK _ _ ?_ hS ((fun w => Below.refl _ w) W) _ rfl rfl
            first | rfl | go_simp | simp
          · -- 17: Op.load 22 (Operand.tmp 30)  [(13, 'false')]
            intro l hl vs W hS hR hp
            obtain rfl : l = [(0, 14), (1, 15), (2, 16), (3, 17), (4, 18), (5, 19), (6, 20), (7, 21), (8, 22), (9, 23), (10, 24), (11, 25), (12, 26), (13, 27), (14, 28), (15, 29), (16, 30)] := hl.symm.trans (by kernel_rfl)
            have p13 : vs 13 = _ := hp 13 (by decide) (by decide)
            have p16 : vs 16 = _ := hp 16 (by decide) (by decide)
            clear hp hl
            refine opgoal (_) (some 31) rfl rfl fun K hK => ?_
            refine Runs.mk ?_
            simp only [putAll]
            go_simp
            refine hK _ _ ?_ hS ((fun w => Below.refl _ w) W) _ rfl rfl
            first | rfl | go_simp | simp
          · -- 18: Op.call { callee := Callee.builtin Builtin.len, args := #[Operand.tmp 31], argTypes := #[22] }  [(13, 'false')]
            intro l hl vs W hS hR hp
            obtain rfl : l = [(0, 14), (1, 15), (2, 16), (3, 17), (4, 18), (5, 19), (6, 20), (7, 21), (8, 22), (9, 23), (10, 24), (11, 25), (12, 26), (13, 27), (14, 28), (15, 29), (16, 30), (17, 31)] := hl.symm.trans (by kernel_rfl)
            have p13 : vs 13 = _ := hp 13 (by decide) (by decide)
            have p17 : vs 17 = _ := hp 17 (by decide) (by decide)
            clear hp hl
            refine opgoal (_) (some 32) rfl rfl fun K hK => ?_
            refine Runs.mk ?_
            simp only [putAll]
            go_simp
            refine hK _ _ ?_ hS ((fun w => Below.refl _ w) W) _ rfl rfl
            first | rfl | go_simp | simp
          · -- 19: Op.binOp BinOp.geq 3 (Operand.tmp 32) (Operand.const (Value.int IntKind.i64 256)) 3  [(13, 'false')]
            intro l hl vs W hS hR hp
            obtain rfl : l = [(0, 14), (1, 15), (2, 16), (3, 17), (4, 18), (5, 19), (6, 20), (7, 21), (8, 22), (9, 23), (10, 24), (11, 25), (12, 26), (13, 27), (14, 28), (15, 29), (16, 30), (17, 31), (18, 32)] := hl.symm.trans (by kernel_rfl)
            have p13 : vs 13 = _ := hp 13 (by decide) (by decide)
            have p18 : vs 18 = _ := hp 18 (by decide) (by decide)
            clear hp hl
            refine opgoal (_) (some 33) rfl rfl fun K hK => ?_
            refine Runs.mk ?_
            simp only [putAll]
            go_simp
            refine hK _ _ ?_ hS ((fun w => Below.refl _ w) W) _ rfl rfl
            first | rfl | go_simp | simp
          · -- 20: Op.pick (Operand.tmp 27) (Operand.const (Value.bool true)) (Operand.tmp 33)
            intro l hl vs W hS hR hp
            obtain rfl : l = [(0, 14), (1, 15), (2, 16), (3, 17), (4, 18), (5, 19), (6, 20), (7, 21), (8, 22), (9, 23), (10, 24), (11, 25), (12, 26), (13, 27), (14, 28), (15, 29), (16, 30), (17, 31), (18, 32), (19, 33)] := hl.symm.trans (by kernel_rfl)
            have p13 : vs 13 = _ := hp 13 (by decide) (by decide)
            have p19 : vs 19 = _ := hp 19 (by decide) (by decide)
            clear hp hl
            refine opgoal (_) (some 34) rfl rfl fun K hK => ?_
            refine Runs.mk ?_
            simp only [putAll]
            go_simp
            refine hK _ _ ?_ hS ((fun w => Below.refl _ w) W) _ rfl rfl
            first | rfl | go_simp | simp
        · intro l hl vs W hS hR hp
          obtain rfl : l = [(0, 14), (1, 15), (2, 16), (3, 17), (4, 18), (5, 19), (6, 20), (7, 21), (8, 22), (9, 23), (10, 24), (11, 25), (12, 26), (13, 27), (14, 28), (15, 29), (16, 30), (17, 31), (18, 32), (19, 33), (20, 34)] := hl.symm.trans (by kernel_rfl)
          have p0 : vs 0 = _ := hp 0 (by decide) (by decide)
          have p1 : vs 1 = _ := hp 1 (by decide) (by decide)
          have p2 : vs 2 = _ := hp 2 (by decide) (by decide)
          have p3 : vs 3 = _ := hp 3 (by decide) (by decide)
          have p4 : vs 4 = _ := hp 4 (by decide) (by decide)
          have p5 : vs 5 = _ := hp 5 (by decide) (by decide)
          have p6 : vs 6 = _ := hp 6 (by decide) (by decide)
          have p7 : vs 7 = _ := hp 7 (by decide) (by decide)
          have p8 : vs 8 = _ := hp 8 (by decide) (by decide)
          have p9 : vs 9 = _ := hp 9 (by decide) (by decide)
          have p10 : vs 10 = _ := hp 10 (by decide) (by decide)
          have p11 : vs 11 = _ := hp 11 (by decide) (by decide)
          have p12 : vs 12 = _ := hp 12 (by decide) (by decide)
          have p13 : vs 13 = _ := hp 13 (by decide) (by decide)
          have p14 : vs 14 = _ := hp 14 (by decide) (by decide)
          have p15 : vs 15 = _ := hp 15 (by decide) (by decide)
          have p16 : vs 16 = _ := hp 16 (by decide) (by decide)
          have p17 : vs 17 = _ := hp 17 (by decide) (by decide)
          have p18 : vs 18 = _ := hp 18 (by decide) (by decide)
          have p19 : vs 19 = _ := hp 19 (by decide) (by decide)
          have p20 : vs 20 = _ := hp 20 (by decide) (by decide)
          clear hp hl
          simp only [putAll_mk, setAll, List.setIfInBounds_toArray, List.set_cons_succ, List.set_cons_zero, p0, p1, p2, p3, p4, p5, p6, p7, p8, p9, p10, p11, p12, p13, p14, p15, p16, p17, p18, p19, p20]
          have HS := Lib.hid hS
          clear hS hR hS0
          go_wp2
          go_roundw
          case rel => exact ⟨kk + 1, m + 1, Lk, VV, by omega, by omega, by go_num, by go_num, HREL.out _ HS.out⟩
          case measure => simp [intOf]; omega
      | true =>
        by_cases hfull : 256 ≤ k
        · have hkd : decide ((256 : Int) ≤ (k : Int)) = true := by simp; omega
          have hkd' : decide (k < 256) = false := by simp; omega
          rw [hkd'] at hF'
          simp only [Bool.and_false, Bool.false_eq_true, if_false] at hF'
          have HF := Lib.hid hF'
          have hk256 : Hid (k ≤ 256) := Lib.hid hl256
          have HREL : Hid (∀ W', Below W.heap.size W W' → Nt W' b mb nodes n f VV (Lk.flatMap encP) Lk.length ∧ Lk.length ≤ 256 ∧ ChN b v w VV W' ∧ Hid ((sendL nodes f (ps.drop (kk + 1)) Lk).1 = LF ∧ m + 1 + (sendL nodes f (ps.drop (kk + 1)) Lk).2 = cF)) := Lib.hid fun W' hb => ⟨by rw [hk]; exact HN.out.below hb, by omega, HCH.out.below (below2 HB0.out hb), Lib.hid ⟨HF.out.1, by have := HF.out.2; omega⟩⟩
          clear hF' hk hfull hkd'
          go_wp2_with fail
          rw [HW0.out, HXB.out]
          have hS0 : Below W.heap.size W W.drew := below_drewN 1 W
          refine wp_region_one (fun W' => Below W.heap.size W W') (fun u v => Below u.heap.size u v) (fun a i => match i with
              | 0 => (fun v _ => v = .pointer (some ⟨b, 0, none⟩))
              | 1 => (fun v _ => v = .bool false)
              | 2 => (fun v _ => v = .bool false)
              | 3 => (fun v _ => v = .pointer (some ⟨b, 0, none⟩))
              | 4 => (fun v _ => v = .pointer (some ⟨b, 0, none⟩))
              | 5 => (fun v _ => v = .pointer (some ⟨b, 0, none⟩))
              | 6 => (fun v _ => v = .pointer (some ⟨xb, 0, none⟩))
              | 7 => (fun v _ => v = .int .i64 px)
              | 8 => (fun v _ => v = .pointer (some ⟨xb, 1, none⟩))
              | 9 => (fun v _ => v = .int .i64 py)
              | 10 => (fun v _ => v = .bool true)
              | 11 => (fun v _ => v = .bool false)
              | 12 => (fun v _ => v = .bool false)
              | 13 => (fun v _ => v = .bool false)
              | 14 => (fun v _ => v = .pointer (some ⟨b, 0, none⟩))
              | 15 => (fun v _ => v = .pointer (some ⟨b, 0, none⟩))
              | 16 => (fun v _ => v = .pointer (some ⟨b, 2, none⟩))
              | 17 => (fun v _ => v = .slice VA k vc)
              | 18 => (fun v _ => v = .int .i64 (k : Int))
              | 19 => (fun v _ => v = .bool true)
              | 20 => (fun v _ => v = .bool true)
              | _ => (fun _ _ => True)) #[0, 1, 3, 7, 15, 31, 7, 71, 7, 263, 1023, 2047, 4095, 8191, 16383, 32767, 65535, 131071, 262143, 524287, 1048575] #[0, 1, 2, 4, 12, 20, 4, 68, 4, 260, 676, 1028, 2052, 4096, 8192, 24576, 40960, 73728, 139264, 270336, 532480] 2097151 (by kernel_rfl) 21 rfl (fun m hm => by subst hm; kernel_rfl) (by kernel_rfl) (fun w => Below.refl _ w) (fun u v w h1 h2 => below2 h1 h2) ?_ (hS0) ?_ ?_
          · intro i hi
            rcases (by omega : i = 0 ∨ i = 1 ∨ i = 2 ∨ i = 3 ∨ i = 4 ∨ i = 5 ∨ i = 6 ∨ i = 7 ∨ i = 8 ∨ i = 9 ∨ i = 10 ∨ i = 11 ∨ i = 12 ∨ i = 13 ∨ i = 14 ∨ i = 15 ∨ i = 16 ∨ i = 17 ∨ i = 18 ∨ i = 19 ∨ i = 20) with rfl | rfl | rfl | rfl | rfl | rfl | rfl | rfl | rfl | rfl | rfl | rfl | rfl | rfl | rfl | rfl | rfl | rfl | rfl | rfl | rfl
            · exact fun v w w' h hr => by exact h
            · exact fun v w w' h hr => by exact h
            · exact fun v w w' h hr => by exact h
            · exact fun v w w' h hr => by exact h
            · exact fun v w w' h hr => by exact h
            · exact fun v w w' h hr => by exact h
            · exact fun v w w' h hr => by exact h
            · exact fun v w w' h hr => by exact h
            · exact fun v w w' h hr => by exact h
            · exact fun v w w' h hr => by exact h
            · exact fun v w w' h hr => by exact h
            · exact fun v w w' h hr => by exact h
            · exact fun v w w' h hr => by exact h
            · exact fun v w w' h hr => by exact h
            · exact fun v w w' h hr => by exact h
            · exact fun v w w' h hr => by exact h
            · exact fun v w w' h hr => by exact h
            · exact fun v w w' h hr => by exact h
            · exact fun v w w' h hr => by exact h
            · exact fun v w w' h hr => by exact h
            · exact fun v w w' h hr => by exact h
          · intro i hi
            rcases (by omega : i = 0 ∨ i = 1 ∨ i = 2 ∨ i = 3 ∨ i = 4 ∨ i = 5 ∨ i = 6 ∨ i = 7 ∨ i = 8 ∨ i = 9 ∨ i = 10 ∨ i = 11 ∨ i = 12 ∨ i = 13 ∨ i = 14 ∨ i = 15 ∨ i = 16 ∨ i = 17 ∨ i = 18 ∨ i = 19 ∨ i = 20) with rfl | rfl | rfl | rfl | rfl | rfl | rfl | rfl | rfl | rfl | rfl | rfl | rfl | rfl | rfl | rfl | rfl | rfl | rfl | rfl | rfl
            · -- 0: Op.move (Operand.tmp 0)
              intro l hl vs W hS hR hp
              obtain rfl : l = [] := hl.symm.trans (by kernel_rfl)
              clear hp hl
              refine opgoal (_) (some 14) rfl rfl fun K hK => ?_
              refine Runs.mk ?_
              simp only [putAll]
              go_simp
              refine hK _ _ ?_ hS ((fun w => Below.refl _ w) W) _ rfl rfl
              first | rfl | go_simp | simp
            · -- 1: Op.binOp BinOp.eql 24 (Operand.tmp 14) (Operand.const (Value.pointer none)) 24
              intro l hl vs W hS hR hp
              obtain rfl : l = [(0, 14)] := hl.symm.trans (by kernel_rfl)
              have p0 : vs 0 = _ := hp 0 (by decide) (by decide)
              clear hp hl
              refine opgoal (_) (some 15) rfl rfl fun K hK => ?_
              refine Runs.mk ?_
              simp only [putAll]
              go_simp
              refine hK _ _ ?_ hS ((fun w => Below.refl _ w) W) _ rfl rfl
              first | rfl | go_simp | simp
            · -- 2: Op.move (Operand.tmp 15)
              intro l hl vs W hS hR hp
              obtain rfl : l = [(0, 14), (1, 15)] := hl.symm.trans (by kernel_rfl)
              have p1 : vs 1 = _ := hp 1 (by decide) (by decide)
              clear hp hl
              refine opgoal (_) (some 16) rfl rfl fun K hK => ?_
              refine Runs.mk ?_
              simp only [putAll]
              go_simp
              refine hK _ _ ?_ hS ((fun w => Below.refl _ w) W) _ rfl rfl
              first | rfl | go_simp | simp
            · -- 3: Op.move (Operand.tmp 0)  [(2, 'false')]
              intro l hl vs W hS hR hp
              obtain rfl : l = [(0, 14), (1, 15), (2, 16)] := hl.symm.trans (by kernel_rfl)
              have p2 : vs 2 = _ := hp 2 (by decide) (by decide)
              clear hp hl
              refine opgoal (_) (some 17) rfl rfl fun K hK => ?_
              refine Runs.mk ?_
              simp only [putAll]
              go_simp
              refine hK _ _ ?_ hS ((fun w => Below.refl _ w) W) _ rfl rfl
              first | rfl | go_simp | simp
            · -- 4: Op.nilCheck (Operand.tmp 17)  [(2, 'false')]
              intro l hl vs W hS hR hp
              obtain rfl : l = [(0, 14), (1, 15), (2, 16), (3, 17)] := hl.symm.trans (by kernel_rfl)
              have p2 : vs 2 = _ := hp 2 (by decide) (by decide)
              have p3 : vs 3 = _ := hp 3 (by decide) (by decide)
              clear hp hl
              refine opgoal (_) (some 18) rfl rfl fun K hK => ?_
              refine Runs.mk ?_
              simp only [putAll]
              go_simp
              refine hK _ _ ?_ hS ((fun w => Below.refl _ w) W) _ rfl rfl
              first | rfl | go_simp | simp
            · -- 5: Op.fieldAddr 106 (Operand.tmp 18) 0  [(2, 'false')]
              intro l hl vs W hS hR hp
              obtain rfl : l = [(0, 14), (1, 15), (2, 16), (3, 17), (4, 18)] := hl.symm.trans (by kernel_rfl)
              have p2 : vs 2 = _ := hp 2 (by decide) (by decide)
              have p4 : vs 4 = _ := hp 4 (by decide) (by decide)
              clear hp hl
              refine opgoal (_) (some 19) rfl rfl fun K hK => ?_
              refine Runs.mk ?_
              simp only [putAll]
              go_simp
              refine hK _ _ ?_ hS ((fun w => Below.refl _ w) W) _ rfl rfl
              first | rfl | go_simp | simp
            · -- 6: Op.fieldAddr 29 (Operand.tmp 7) 0  [(2, 'false')]
              intro l hl vs W hS hR hp
              obtain rfl : l = [(0, 14), (1, 15), (2, 16)] := hl.symm.trans (by kernel_rfl)
              have p2 : vs 2 = _ := hp 2 (by decide) (by decide)
              clear hp hl
              refine opgoal (_) (some 20) rfl rfl fun K hK => ?_
              refine Runs.mk ?_
              simp only [putAll]
              go_simp
              refine hK _ _ ?_ hS ((fun w => Below.refl _ w) W) _ rfl rfl
              first | rfl | go_simp | simp
            · -- 7: Op.load 3 (Operand.tmp 20)  [(2, 'false')]
              intro l hl vs W hS hR hp
              obtain rfl : l = [(0, 14), (1, 15), (2, 16), (6, 20)] := hl.symm.trans (by kernel_rfl)
              have p2 : vs 2 = _ := hp 2 (by decide) (by decide)
              have p6 : vs 6 = _ := hp 6 (by decide) (by decide)
              clear hp hl
              refine opgoal (_) (some 21) rfl rfl fun K hK => ?_
              obtain ⟨f0, f1, f2, f3⟩ := pk_cells ((hS.block _ (Array.getElem?_eq_some_iff.1 HX.out).1).trans HX.out)
              refine Runs.mk ?_
              simp only [putAll]
              go_simp
              refine hK _ _ ?_ hS ((fun w => Below.refl _ w) W) _ rfl rfl
              first | rfl | go_simp | simp
            · -- 8: Op.fieldAddr 29 (Operand.tmp 7) 1  [(2, 'false')]
              intro l hl vs W hS hR hp
              obtain rfl : l = [(0, 14), (1, 15), (2, 16)] := hl.symm.trans (by kernel_rfl)
              have p2 : vs 2 = _ := hp 2 (by decide) (by decide)
              clear hp hl
              refine opgoal (_) (some 22) rfl rfl fun K hK => ?_
              refine Runs.mk ?_
              simp only [putAll]
              go_simp
              refine hK _ _ ?_ hS ((fun w => Below.refl _ w) W) _ rfl rfl
              first | rfl | go_simp | simp
            · -- 9: Op.load 3 (Operand.tmp 22)  [(2, 'false')]
              intro l hl vs W hS hR hp
              obtain rfl : l = [(0, 14), (1, 15), (2, 16), (8, 22)] := hl.symm.trans (by kernel_rfl)
              have p2 : vs 2 = _ := hp 2 (by decide) (by decide)
              have p8 : vs 8 = _ := hp 8 (by decide) (by decide)
              clear hp hl
              refine opgoal (_) (some 23) rfl rfl fun K hK => ?_
              obtain ⟨f0, f1, f2, f3⟩ := pk_cells ((hS.block _ (Array.getElem?_eq_some_iff.1 HX.out).1).trans HX.out)
              refine Runs.mk ?_
              simp only [putAll]
              go_simp
              refine hK _ _ ?_ hS ((fun w => Below.refl _ w) W) _ rfl rfl
              first | rfl | go_simp | simp
            · -- 10: Op.call { callee := Callee.value (Operand.func 63), args := #[Operand.tmp 19, Operand.tmp 21, Operand.tmp 23], argTypes := #[104, 3, 3] }  [(2, 'false')]
              intro l hl vs W hS hR hp
              obtain rfl : l = [(0, 14), (1, 15), (2, 16), (3, 17), (4, 18), (5, 19), (6, 20), (7, 21), (8, 22), (9, 23)] := hl.symm.trans (by kernel_rfl)
              have p2 : vs 2 = _ := hp 2 (by decide) (by decide)
              have p5 : vs 5 = _ := hp 5 (by decide) (by decide)
              have p7 : vs 7 = _ := hp 7 (by decide) (by decide)
              have p9 : vs 9 = _ := hp 9 (by decide) (by decide)
              clear hp hl
              refine opgoal (_) (some 24) rfl rfl fun K hK => ?_
              refine Runs.mk ?_
              simp only [putAll]
              go_simp
              refine (HWH.out W (HN.out.below hS)).mono ?_
              rintro e w' ⟨rfl, hb⟩
              go_simp
              exact hK _ _ rfl (below2 hS hb) hb _ rfl rfl
            · -- 11: Op.unOp UnOp.not 4 (Operand.tmp 24)  [(2, 'false')]
              intro l hl vs W hS hR hp
              obtain rfl : l = [(0, 14), (1, 15), (2, 16), (3, 17), (4, 18), (5, 19), (6, 20), (7, 21), (8, 22), (9, 23), (10, 24)] := hl.symm.trans (by kernel_rfl)
              have p2 : vs 2 = _ := hp 2 (by decide) (by decide)
              have p10 : vs 10 = _ := hp 10 (by decide) (by decide)
              clear hp hl
              refine opgoal (_) (some 25) rfl rfl fun K hK => ?_
              refine Runs.mk ?_
              simp only [putAll]
              go_simp
              refine hK _ _ ?_ hS ((fun w => Below.refl _ w) W) _ rfl rfl
              first | rfl | go_simp | simp
            · -- 12: Op.pick (Operand.tmp 16) (Operand.const (Value.bool true)) (Operand.tmp 25)
              intro l hl vs W hS hR hp
              obtain rfl : l = [(0, 14), (1, 15), (2, 16), (3, 17), (4, 18), (5, 19), (6, 20), (7, 21), (8, 22), (9, 23), (10, 24), (11, 25)] := hl.symm.trans (by kernel_rfl)
              have p2 : vs 2 = _ := hp 2 (by decide) (by decide)
              have p11 : vs 11 = _ := hp 11 (by decide) (by decide)
              clear hp hl
              refine opgoal (_) (some 26) rfl rfl fun K hK => ?_
              refine Runs.mk ?_
              simp only [putAll]
              go_simp
              refine hK _ _ ?_ hS ((fun w => Below.refl _ w) W) _ rfl rfl
              first | rfl | go_simp | simp
            · -- 13: Op.move (Operand.tmp 26)
              intro l hl vs W hS hR hp
              obtain rfl : l = [(0, 14), (1, 15), (2, 16), (3, 17), (4, 18), (5, 19), (6, 20), (7, 21), (8, 22), (9, 23), (10, 24), (11, 25), (12, 26)] := hl.symm.trans (by kernel_rfl)
              have p12 : vs 12 = _ := hp 12 (by decide) (by decide)
              clear hp hl
              refine opgoal (_) (some 27) rfl rfl fun K hK => ?_
              refine Runs.mk ?_
              simp only [putAll]
              go_simp
              refine hK _ _ ?_ hS ((fun w => Below.refl _ w) W) _ rfl rfl
              first | rfl | go_simp | simp
            · -- 14: Op.move (Operand.tmp 0)  [(13, 'false')]
              intro l hl vs W hS hR hp
              obtain rfl : l = [(0, 14), (1, 15), (2, 16), (3, 17), (4, 18), (5, 19), (6, 20), (7, 21), (8, 22), (9, 23), (10, 24), (11, 25), (12, 26), (13, 27)] := hl.symm.trans (by kernel_rfl)
              have p13 : vs 13 = _ := hp 13 (by decide) (by decide)
              clear hp hl
              refine opgoal (_) (some 28) rfl rfl fun K hK => ?_
              refine Runs.mk ?_
              simp only [putAll]
              go_simp
              refine hK _ _ ?_ hS ((fun w => Below.refl _ w) W) _ rfl rfl
              first | rfl | go_simp | simp
            · -- 15: Op.nilCheck (Operand.tmp 28)  [(13, 'false')]
              intro l hl vs W hS hR hp
              obtain rfl : l = [(0, 14), (1, 15), (2, 16), (3, 17), (4, 18), (5, 19), (6, 20), (7, 21), (8, 22), (9, 23), (10, 24), (11, 25), (12, 26), (13, 27), (14, 28)] := hl.symm.trans (by kernel_rfl)
              have p13 : vs 13 = _ := hp 13 (by decide) (by decide)
              have p14 : vs 14 = _ := hp 14 (by decide) (by decide)
              clear hp hl
              refine opgoal (_) (some 29) rfl rfl fun K hK => ?_
              refine Runs.mk ?_
              simp only [putAll]
              go_simp
              refine hK _ _ ?_ hS ((fun w => Below.refl _ w) W) _ rfl rfl
              first | rfl | go_simp | simp
            · -- 16: Op.fieldAddr 106 (Operand.tmp 29) 1  [(13, 'false')]
              intro l hl vs W hS hR hp
              obtain rfl : l = [(0, 14), (1, 15), (2, 16), (3, 17), (4, 18), (5, 19), (6, 20), (7, 21), (8, 22), (9, 23), (10, 24), (11, 25), (12, 26), (13, 27), (14, 28), (15, 29)] := hl.symm.trans (by kernel_rfl)
              have p13 : vs 13 = _ := hp 13 (by decide) (by decide)
              have p15 : vs 15 = _ := hp 15 (by decide) (by decide)
              clear hp hl
              refine opgoal (_) (some 30) rfl rfl fun K hK => ?_
              refine Runs.mk ?_
              simp only [putAll]
              go_simp
              refine hK _ _ ?_ hS ((fun w => Below.refl _ w) W) _ rfl rfl
              first | rfl | go_simp | simp
            · -- 17: Op.load 22 (Operand.tmp 30)  [(13, 'false')]
              intro l hl vs W hS hR hp
              obtain rfl : l = [(0, 14), (1, 15), (2, 16), (3, 17), (4, 18), (5, 19), (6, 20), (7, 21), (8, 22), (9, 23), (10, 24), (11, 25), (12, 26), (13, 27), (14, 28), (15, 29), (16, 30)] := hl.symm.trans (by kernel_rfl)
              have p13 : vs 13 = _ := hp 13 (by decide) (by decide)
              have p16 : vs 16 = _ := hp 16 (by decide) (by decide)
              clear hp hl
              refine opgoal (_) (some 31) rfl rfl fun K hK => ?_
              have c2 := (HN.out.below hS).cell.2.2.1
              rw [hVV.out] at c2
              refine Runs.mk ?_
              simp only [putAll]
              go_simp
              refine hK _ _ ?_ hS ((fun w => Below.refl _ w) W) _ rfl rfl
              first | rfl | go_simp | simp
            · -- 18: Op.call { callee := Callee.builtin Builtin.len, args := #[Operand.tmp 31], argTypes := #[22] }  [(13, 'false')]
              intro l hl vs W hS hR hp
              obtain rfl : l = [(0, 14), (1, 15), (2, 16), (3, 17), (4, 18), (5, 19), (6, 20), (7, 21), (8, 22), (9, 23), (10, 24), (11, 25), (12, 26), (13, 27), (14, 28), (15, 29), (16, 30), (17, 31)] := hl.symm.trans (by kernel_rfl)
              have p13 : vs 13 = _ := hp 13 (by decide) (by decide)
              have p17 : vs 17 = _ := hp 17 (by decide) (by decide)
              clear hp hl
              refine opgoal (_) (some 32) rfl rfl fun K hK => ?_
              refine Runs.mk ?_
              simp only [putAll]
              go_simp
              refine hK _ _ ?_ hS ((fun w => Below.refl _ w) W) _ rfl rfl
              first | rfl | go_simp | simp
            · -- 19: Op.binOp BinOp.geq 3 (Operand.tmp 32) (Operand.const (Value.int IntKind.i64 256)) 3  [(13, 'false')]
              intro l hl vs W hS hR hp
              obtain rfl : l = [(0, 14), (1, 15), (2, 16), (3, 17), (4, 18), (5, 19), (6, 20), (7, 21), (8, 22), (9, 23), (10, 24), (11, 25), (12, 26), (13, 27), (14, 28), (15, 29), (16, 30), (17, 31), (18, 32)] := hl.symm.trans (by kernel_rfl)
              have p13 : vs 13 = _ := hp 13 (by decide) (by decide)
              have p18 : vs 18 = _ := hp 18 (by decide) (by decide)
              clear hp hl
              refine opgoal (_) (some 33) rfl rfl fun K hK => ?_
              have hkk := hk256.out
              refine Runs.mk ?_
              simp only [putAll]
              go_simp
              refine hK _ _ ?_ hS ((fun w => Below.refl _ w) W) _ rfl rfl
              first | rfl | go_simp | simp
            · -- 20: Op.pick (Operand.tmp 27) (Operand.const (Value.bool true)) (Operand.tmp 33)
              intro l hl vs W hS hR hp
              obtain rfl : l = [(0, 14), (1, 15), (2, 16), (3, 17), (4, 18), (5, 19), (6, 20), (7, 21), (8, 22), (9, 23), (10, 24), (11, 25), (12, 26), (13, 27), (14, 28), (15, 29), (16, 30), (17, 31), (18, 32), (19, 33)] := hl.symm.trans (by kernel_rfl)
              have p13 : vs 13 = _ := hp 13 (by decide) (by decide)
              have p19 : vs 19 = _ := hp 19 (by decide) (by decide)
              clear hp hl
              refine opgoal (_) (some 34) rfl rfl fun K hK => ?_
              refine Runs.mk ?_
              simp only [putAll]
              go_simp
              refine hK _ _ ?_ hS ((fun w => Below.refl _ w) W) _ rfl rfl
              first | rfl | go_simp | simp
          · intro l hl vs W hS hR hp
            obtain rfl : l = [(0, 14), (1, 15), (2, 16), (3, 17), (4, 18), (5, 19), (6, 20), (7, 21), (8, 22), (9, 23), (10, 24), (11, 25), (12, 26), (13, 27), (14, 28), (15, 29), (16, 30), (17, 31), (18, 32), (19, 33), (20, 34)] := hl.symm.trans (by kernel_rfl)
            have p0 : vs 0 = _ := hp 0 (by decide) (by decide)
            have p1 : vs 1 = _ := hp 1 (by decide) (by decide)
            have p2 : vs 2 = _ := hp 2 (by decide) (by decide)
            have p3 : vs 3 = _ := hp 3 (by decide) (by decide)
            have p4 : vs 4 = _ := hp 4 (by decide) (by decide)
            have p5 : vs 5 = _ := hp 5 (by decide) (by decide)
            have p6 : vs 6 = _ := hp 6 (by decide) (by decide)
            have p7 : vs 7 = _ := hp 7 (by decide) (by decide)
            have p8 : vs 8 = _ := hp 8 (by decide) (by decide)
            have p9 : vs 9 = _ := hp 9 (by decide) (by decide)
            have p10 : vs 10 = _ := hp 10 (by decide) (by decide)
            have p11 : vs 11 = _ := hp 11 (by decide) (by decide)
            have p12 : vs 12 = _ := hp 12 (by decide) (by decide)
            have p13 : vs 13 = _ := hp 13 (by decide) (by decide)
            have p14 : vs 14 = _ := hp 14 (by decide) (by decide)
            have p15 : vs 15 = _ := hp 15 (by decide) (by decide)
            have p16 : vs 16 = _ := hp 16 (by decide) (by decide)
            have p17 : vs 17 = _ := hp 17 (by decide) (by decide)
            have p18 : vs 18 = _ := hp 18 (by decide) (by decide)
            have p19 : vs 19 = _ := hp 19 (by decide) (by decide)
            have p20 : vs 20 = _ := hp 20 (by decide) (by decide)
            clear hp hl
            simp only [putAll_mk, setAll, List.setIfInBounds_toArray, List.set_cons_succ, List.set_cons_zero, p0, p1, p2, p3, p4, p5, p6, p7, p8, p9, p10, p11, p12, p13, p14, p15, p16, p17, p18, p19, p20]
            have HS := Lib.hid hS
            clear hS hR hS0
            go_wp2
            go_roundw
            case rel => exact ⟨kk + 1, m + 1, Lk, VV, by omega, by omega, by go_num, by go_num, HREL.out _ HS.out⟩
            case measure => simp [intOf]; omega
        · have hkd : decide ((256 : Int) ≤ (k : Int)) = false := by simp; omega
          have hkd' : decide (k < 256) = true := by simp; omega
          rw [hkd'] at hF'
          simp only [Bool.and_self, if_true] at hF'
          have HF := Lib.hid hF'
          have hk256 : Hid (k < 256) := Lib.hid (by omega)
          have HREL : Hid (∀ W' W2, Below W.heap.size W W' → PushN b mb nodes n f W'.heap.size xb VV (Lk.flatMap encP) k px py pS pq true true W2 → Keep (b :: VV.ownBlock.toList) W'.drew W2 → ∀ iv : Value, iv = .int .i64 ((kk + 1 : Nat) : Int) → ∃ (kk' m' : Nat) (Lk' : List Pkt) (vk : Value), kk' ≤ N ∧ m' ≤ kk' ∧ iv = .int .i64 kk' ∧ Value.int .i64 (m : Int) = .int .i64 m' ∧ Nt W2 b mb nodes n f vk (Lk'.flatMap encP) Lk'.length ∧ Lk'.length ≤ 256 ∧ ChN b v w vk W2 ∧ Hid ((sendL nodes f (ps.drop kk') Lk').1 = LF ∧ m' + (sendL nodes f (ps.drop kk') Lk').2 = cF)) := Lib.hid fun W' W2 hb hp hkk iv hiv => by
            obtain ⟨v', hnt', hv'⟩ := hp.last rfl
            have hbw := below2 HB0.out hb
            refine ⟨kk + 1, m, Lk ++ [⟨px, py, pS, pq⟩], v', by omega, by omega, hiv, rfl, by rw [List.flatMap_append, List.length_append, hk]; simpa [encP] using hnt', by rw [List.length_append, hk]; simp; omega, (HCH.out.below hbw).trans (((Keep.refl _ W').drew).trans hkk) hv', HF⟩
          clear hF' hk hfull hkd'
          obtain ⟨L, hL⟩ : ∃ L, Lk.flatMap encP = L := ⟨_, rfl⟩
          rw [hL] at HREL HPS HN HWH
          obtain ⟨ps, hps⟩ : ∃ s, pS = s := ⟨_, rfl⟩
          rw [hps] at HREL HPS HX HW0 c2
          clear hL hps
          go_wp2_with fail
          rw [HW0.out, HXB.out]
          have hS0 : Below W.heap.size W W.drew := below_drewN 1 W
          refine wp_region_one (fun W' => Below W.heap.size W W') (fun u v => Below u.heap.size u v) (fun a i => match i with
              | 0 => (fun v _ => v = .pointer (some ⟨b, 0, none⟩))
              | 1 => (fun v _ => v = .bool false)
              | 2 => (fun v _ => v = .bool false)
              | 3 => (fun v _ => v = .pointer (some ⟨b, 0, none⟩))
              | 4 => (fun v _ => v = .pointer (some ⟨b, 0, none⟩))
              | 5 => (fun v _ => v = .pointer (some ⟨b, 0, none⟩))
              | 6 => (fun v _ => v = .pointer (some ⟨xb, 0, none⟩))
              | 7 => (fun v _ => v = .int .i64 px)
              | 8 => (fun v _ => v = .pointer (some ⟨xb, 1, none⟩))
              | 9 => (fun v _ => v = .int .i64 py)
              | 10 => (fun v _ => v = .bool true)
              | 11 => (fun v _ => v = .bool false)
              | 12 => (fun v _ => v = .bool false)
              | 13 => (fun v _ => v = .bool false)
              | 14 => (fun v _ => v = .pointer (some ⟨b, 0, none⟩))
              | 15 => (fun v _ => v = .pointer (some ⟨b, 0, none⟩))
              | 16 => (fun v _ => v = .pointer (some ⟨b, 2, none⟩))
              | 17 => (fun v _ => v = .slice VA k vc)
              | 18 => (fun v _ => v = .int .i64 (k : Int))
              | 19 => (fun v _ => v = .bool false)
              | 20 => (fun v _ => v = .bool false)
              | _ => (fun _ _ => True)) #[0, 1, 3, 7, 15, 31, 7, 71, 7, 263, 1023, 2047, 4095, 8191, 16383, 32767, 65535, 131071, 262143, 524287, 1048575] #[0, 1, 2, 4, 12, 20, 4, 68, 4, 260, 676, 1028, 2052, 4096, 8192, 24576, 40960, 73728, 139264, 270336, 532480] 2097151 (by kernel_rfl) 21 rfl (fun m hm => by subst hm; kernel_rfl) (by kernel_rfl) (fun w => Below.refl _ w) (fun u v w h1 h2 => below2 h1 h2) ?_ (hS0) ?_ ?_
          · intro i hi
            rcases (by omega : i = 0 ∨ i = 1 ∨ i = 2 ∨ i = 3 ∨ i = 4 ∨ i = 5 ∨ i = 6 ∨ i = 7 ∨ i = 8 ∨ i = 9 ∨ i = 10 ∨ i = 11 ∨ i = 12 ∨ i = 13 ∨ i = 14 ∨ i = 15 ∨ i = 16 ∨ i = 17 ∨ i = 18 ∨ i = 19 ∨ i = 20) with rfl | rfl | rfl | rfl | rfl | rfl | rfl | rfl | rfl | rfl | rfl | rfl | rfl | rfl | rfl | rfl | rfl | rfl | rfl | rfl | rfl
            · exact fun v w w' h hr => by exact h
            · exact fun v w w' h hr => by exact h
            · exact fun v w w' h hr => by exact h
            · exact fun v w w' h hr => by exact h
            · exact fun v w w' h hr => by exact h
            · exact fun v w w' h hr => by exact h
            · exact fun v w w' h hr => by exact h
            · exact fun v w w' h hr => by exact h
            · exact fun v w w' h hr => by exact h
            · exact fun v w w' h hr => by exact h
            · exact fun v w w' h hr => by exact h
            · exact fun v w w' h hr => by exact h
            · exact fun v w w' h hr => by exact h
            · exact fun v w w' h hr => by exact h
            · exact fun v w w' h hr => by exact h
            · exact fun v w w' h hr => by exact h
            · exact fun v w w' h hr => by exact h
            · exact fun v w w' h hr => by exact h
            · exact fun v w w' h hr => by exact h
            · exact fun v w w' h hr => by exact h
            · exact fun v w w' h hr => by exact h
          · intro i hi
            rcases (by omega : i = 0 ∨ i = 1 ∨ i = 2 ∨ i = 3 ∨ i = 4 ∨ i = 5 ∨ i = 6 ∨ i = 7 ∨ i = 8 ∨ i = 9 ∨ i = 10 ∨ i = 11 ∨ i = 12 ∨ i = 13 ∨ i = 14 ∨ i = 15 ∨ i = 16 ∨ i = 17 ∨ i = 18 ∨ i = 19 ∨ i = 20) with rfl | rfl | rfl | rfl | rfl | rfl | rfl | rfl | rfl | rfl | rfl | rfl | rfl | rfl | rfl | rfl | rfl | rfl | rfl | rfl | rfl
            · -- 0: Op.move (Operand.tmp 0)
              intro l hl vs W hS hR hp
              obtain rfl : l = [] := hl.symm.trans (by kernel_rfl)
              clear hp hl
              refine opgoal (_) (some 14) rfl rfl fun K hK => ?_
              refine Runs.mk ?_
              simp only [putAll]
              go_simp
              refine hK _ _ ?_ hS ((fun w => Below.refl _ w) W) _ rfl rfl
              first | rfl | go_simp | simp
            · -- 1: Op.binOp BinOp.eql 24 (Operand.tmp 14) (Operand.const (Value.pointer none)) 24
              intro l hl vs W hS hR hp
              obtain rfl : l = [(0, 14)] := hl.symm.trans (by kernel_rfl)
              have p0 : vs 0 = _ := hp 0 (by decide) (by decide)
              clear hp hl
              refine opgoal (_) (some 15) rfl rfl fun K hK => ?_
              refine Runs.mk ?_
              simp only [putAll]
              go_simp
              refine hK _ _ ?_ hS ((fun w => Below.refl _ w) W) _ rfl rfl
              first | rfl | go_simp | simp
            · -- 2: Op.move (Operand.tmp 15)
              intro l hl vs W hS hR hp
              obtain rfl : l = [(0, 14), (1, 15)] := hl.symm.trans (by kernel_rfl)
              have p1 : vs 1 = _ := hp 1 (by decide) (by decide)
              clear hp hl
              refine opgoal (_) (some 16) rfl rfl fun K hK => ?_
              refine Runs.mk ?_
              simp only [putAll]
              go_simp
              refine hK _ _ ?_ hS ((fun w => Below.refl _ w) W) _ rfl rfl
              first | rfl | go_simp | simp
            · -- 3: Op.move (Operand.tmp 0)  [(2, 'false')]
              intro l hl vs W hS hR hp
              obtain rfl : l = [(0, 14), (1, 15), (2, 16)] := hl.symm.trans (by kernel_rfl)
              have p2 : vs 2 = _ := hp 2 (by decide) (by decide)
              clear hp hl
              refine opgoal (_) (some 17) rfl rfl fun K hK => ?_
              refine Runs.mk ?_
              simp only [putAll]
              go_simp
              refine hK _ _ ?_ hS ((fun w => Below.refl _ w) W) _ rfl rfl
              first | rfl | go_simp | simp
            · -- 4: Op.nilCheck (Operand.tmp 17)  [(2, 'false')]
              intro l hl vs W hS hR hp
              obtain rfl : l = [(0, 14), (1, 15), (2, 16), (3, 17)] := hl.symm.trans (by kernel_rfl)
              have p2 : vs 2 = _ := hp 2 (by decide) (by decide)
              have p3 : vs 3 = _ := hp 3 (by decide) (by decide)
              clear hp hl
              refine opgoal (_) (some 18) rfl rfl fun K hK => ?_
              refine Runs.mk ?_
              simp only [putAll]
              go_simp
              refine hK _ _ ?_ hS ((fun w => Below.refl _ w) W) _ rfl rfl
              first | rfl | go_simp | simp
            · -- 5: Op.fieldAddr 106 (Operand.tmp 18) 0  [(2, 'false')]
              intro l hl vs W hS hR hp
              obtain rfl : l = [(0, 14), (1, 15), (2, 16), (3, 17), (4, 18)] := hl.symm.trans (by kernel_rfl)
              have p2 : vs 2 = _ := hp 2 (by decide) (by decide)
              have p4 : vs 4 = _ := hp 4 (by decide) (by decide)
              clear hp hl
              refine opgoal (_) (some 19) rfl rfl fun K hK => ?_
              refine Runs.mk ?_
              simp only [putAll]
              go_simp
              refine hK _ _ ?_ hS ((fun w => Below.refl _ w) W) _ rfl rfl
              first | rfl | go_simp | simp
            · -- 6: Op.fieldAddr 29 (Operand.tmp 7) 0  [(2, 'false')]
              intro l hl vs W hS hR hp
              obtain rfl : l = [(0, 14), (1, 15), (2, 16)] := hl.symm.trans (by kernel_rfl)
              have p2 : vs 2 = _ := hp 2 (by decide) (by decide)
              clear hp hl
              refine opgoal (_) (some 20) rfl rfl fun K hK => ?_
              refine Runs.mk ?_
              simp only [putAll]
              go_simp
              refine hK _ _ ?_ hS ((fun w => Below.refl _ w) W) _ rfl rfl
              first | rfl | go_simp | simp
            · -- 7: Op.load 3 (Operand.tmp 20)  [(2, 'false')]
              intro l hl vs W hS hR hp
              obtain rfl : l = [(0, 14), (1, 15), (2, 16), (6, 20)] := hl.symm.trans (by kernel_rfl)
              have p2 : vs 2 = _ := hp 2 (by decide) (by decide)
              have p6 : vs 6 = _ := hp 6 (by decide) (by decide)
              clear hp hl
              refine opgoal (_) (some 21) rfl rfl fun K hK => ?_
              obtain ⟨f0, f1, f2, f3⟩ := pk_cells ((hS.block _ (Array.getElem?_eq_some_iff.1 HX.out).1).trans HX.out)
              refine Runs.mk ?_
              simp only [putAll]
              go_simp
              refine hK _ _ ?_ hS ((fun w => Below.refl _ w) W) _ rfl rfl
              first | rfl | go_simp | simp
            · -- 8: Op.fieldAddr 29 (Operand.tmp 7) 1  [(2, 'false')]
              intro l hl vs W hS hR hp
              obtain rfl : l = [(0, 14), (1, 15), (2, 16)] := hl.symm.trans (by kernel_rfl)
              have p2 : vs 2 = _ := hp 2 (by decide) (by decide)
              clear hp hl
              refine opgoal (_) (some 22) rfl rfl fun K hK => ?_
              refine Runs.mk ?_
              simp only [putAll]
              go_simp
              refine hK _ _ ?_ hS ((fun w => Below.refl _ w) W) _ rfl rfl
              first | rfl | go_simp | simp
            · -- 9: Op.load 3 (Operand.tmp 22)  [(2, 'false')]
              intro l hl vs W hS hR hp
              obtain rfl : l = [(0, 14), (1, 15), (2, 16), (8, 22)] := hl.symm.trans (by kernel_rfl)
              have p2 : vs 2 = _ := hp 2 (by decide) (by decide)
              have p8 : vs 8 = _ := hp 8 (by decide) (by decide)
              clear hp hl
              refine opgoal (_) (some 23) rfl rfl fun K hK => ?_
              obtain ⟨f0, f1, f2, f3⟩ := pk_cells ((hS.block _ (Array.getElem?_eq_some_iff.1 HX.out).1).trans HX.out)
              refine Runs.mk ?_
              simp only [putAll]
              go_simp
              refine hK _ _ ?_ hS ((fun w => Below.refl _ w) W) _ rfl rfl
              first | rfl | go_simp | simp
            · -- 10: Op.call { callee := Callee.value (Operand.func 63), args := #[Operand.tmp 19, Operand.tmp 21, Operand.tmp 23], argTypes := #[104, 3, 3] }  [(2, 'false')]
              intro l hl vs W hS hR hp
              obtain rfl : l = [(0, 14), (1, 15), (2, 16), (3, 17), (4, 18), (5, 19), (6, 20), (7, 21), (8, 22), (9, 23)] := hl.symm.trans (by kernel_rfl)
              have p2 : vs 2 = _ := hp 2 (by decide) (by decide)
              have p5 : vs 5 = _ := hp 5 (by decide) (by decide)
              have p7 : vs 7 = _ := hp 7 (by decide) (by decide)
              have p9 : vs 9 = _ := hp 9 (by decide) (by decide)
              clear hp hl
              refine opgoal (_) (some 24) rfl rfl fun K hK => ?_
              refine Runs.mk ?_
              simp only [putAll]
              go_simp
              refine (HWH.out W (HN.out.below hS)).mono ?_
              rintro e w' ⟨rfl, hb⟩
              go_simp
              exact hK _ _ rfl (below2 hS hb) hb _ rfl rfl
            · -- 11: Op.unOp UnOp.not 4 (Operand.tmp 24)  [(2, 'false')]
              intro l hl vs W hS hR hp
              obtain rfl : l = [(0, 14), (1, 15), (2, 16), (3, 17), (4, 18), (5, 19), (6, 20), (7, 21), (8, 22), (9, 23), (10, 24)] := hl.symm.trans (by kernel_rfl)
              have p2 : vs 2 = _ := hp 2 (by decide) (by decide)
              have p10 : vs 10 = _ := hp 10 (by decide) (by decide)
              clear hp hl
              refine opgoal (_) (some 25) rfl rfl fun K hK => ?_
              refine Runs.mk ?_
              simp only [putAll]
              go_simp
              refine hK _ _ ?_ hS ((fun w => Below.refl _ w) W) _ rfl rfl
              first | rfl | go_simp | simp
            · -- 12: Op.pick (Operand.tmp 16) (Operand.const (Value.bool true)) (Operand.tmp 25)
              intro l hl vs W hS hR hp
              obtain rfl : l = [(0, 14), (1, 15), (2, 16), (3, 17), (4, 18), (5, 19), (6, 20), (7, 21), (8, 22), (9, 23), (10, 24), (11, 25)] := hl.symm.trans (by kernel_rfl)
              have p2 : vs 2 = _ := hp 2 (by decide) (by decide)
              have p11 : vs 11 = _ := hp 11 (by decide) (by decide)
              clear hp hl
              refine opgoal (_) (some 26) rfl rfl fun K hK => ?_
              refine Runs.mk ?_
              simp only [putAll]
              go_simp
              refine hK _ _ ?_ hS ((fun w => Below.refl _ w) W) _ rfl rfl
              first | rfl | go_simp | simp
            · -- 13: Op.move (Operand.tmp 26)
              intro l hl vs W hS hR hp
              obtain rfl : l = [(0, 14), (1, 15), (2, 16), (3, 17), (4, 18), (5, 19), (6, 20), (7, 21), (8, 22), (9, 23), (10, 24), (11, 25), (12, 26)] := hl.symm.trans (by kernel_rfl)
              have p12 : vs 12 = _ := hp 12 (by decide) (by decide)
              clear hp hl
              refine opgoal (_) (some 27) rfl rfl fun K hK => ?_
              refine Runs.mk ?_
              simp only [putAll]
              go_simp
              refine hK _ _ ?_ hS ((fun w => Below.refl _ w) W) _ rfl rfl
              first | rfl | go_simp | simp
            · -- 14: Op.move (Operand.tmp 0)  [(13, 'false')]
              intro l hl vs W hS hR hp
              obtain rfl : l = [(0, 14), (1, 15), (2, 16), (3, 17), (4, 18), (5, 19), (6, 20), (7, 21), (8, 22), (9, 23), (10, 24), (11, 25), (12, 26), (13, 27)] := hl.symm.trans (by kernel_rfl)
              have p13 : vs 13 = _ := hp 13 (by decide) (by decide)
              clear hp hl
              refine opgoal (_) (some 28) rfl rfl fun K hK => ?_
              refine Runs.mk ?_
              simp only [putAll]
              go_simp
              refine hK _ _ ?_ hS ((fun w => Below.refl _ w) W) _ rfl rfl
              first | rfl | go_simp | simp
            · -- 15: Op.nilCheck (Operand.tmp 28)  [(13, 'false')]
              intro l hl vs W hS hR hp
              obtain rfl : l = [(0, 14), (1, 15), (2, 16), (3, 17), (4, 18), (5, 19), (6, 20), (7, 21), (8, 22), (9, 23), (10, 24), (11, 25), (12, 26), (13, 27), (14, 28)] := hl.symm.trans (by kernel_rfl)
              have p13 : vs 13 = _ := hp 13 (by decide) (by decide)
              have p14 : vs 14 = _ := hp 14 (by decide) (by decide)
              clear hp hl
              refine opgoal (_) (some 29) rfl rfl fun K hK => ?_
              refine Runs.mk ?_
              simp only [putAll]
              go_simp
              refine hK _ _ ?_ hS ((fun w => Below.refl _ w) W) _ rfl rfl
              first | rfl | go_simp | simp
            · -- 16: Op.fieldAddr 106 (Operand.tmp 29) 1  [(13, 'false')]
              intro l hl vs W hS hR hp
              obtain rfl : l = [(0, 14), (1, 15), (2, 16), (3, 17), (4, 18), (5, 19), (6, 20), (7, 21), (8, 22), (9, 23), (10, 24), (11, 25), (12, 26), (13, 27), (14, 28), (15, 29)] := hl.symm.trans (by kernel_rfl)
              have p13 : vs 13 = _ := hp 13 (by decide) (by decide)
              have p15 : vs 15 = _ := hp 15 (by decide) (by decide)
              clear hp hl
              refine opgoal (_) (some 30) rfl rfl fun K hK => ?_
              refine Runs.mk ?_
              simp only [putAll]
              go_simp
              refine hK _ _ ?_ hS ((fun w => Below.refl _ w) W) _ rfl rfl
              first | rfl | go_simp | simp
            · -- 17: Op.load 22 (Operand.tmp 30)  [(13, 'false')]
              intro l hl vs W hS hR hp
              obtain rfl : l = [(0, 14), (1, 15), (2, 16), (3, 17), (4, 18), (5, 19), (6, 20), (7, 21), (8, 22), (9, 23), (10, 24), (11, 25), (12, 26), (13, 27), (14, 28), (15, 29), (16, 30)] := hl.symm.trans (by kernel_rfl)
              have p13 : vs 13 = _ := hp 13 (by decide) (by decide)
              have p16 : vs 16 = _ := hp 16 (by decide) (by decide)
              clear hp hl
              refine opgoal (_) (some 31) rfl rfl fun K hK => ?_
              have c2 := (HN.out.below hS).cell.2.2.1
              rw [hVV.out] at c2
              refine Runs.mk ?_
              simp only [putAll]
              go_simp
              refine hK _ _ ?_ hS ((fun w => Below.refl _ w) W) _ rfl rfl
              first | rfl | go_simp | simp
            · -- 18: Op.call { callee := Callee.builtin Builtin.len, args := #[Operand.tmp 31], argTypes := #[22] }  [(13, 'false')]
              intro l hl vs W hS hR hp
              obtain rfl : l = [(0, 14), (1, 15), (2, 16), (3, 17), (4, 18), (5, 19), (6, 20), (7, 21), (8, 22), (9, 23), (10, 24), (11, 25), (12, 26), (13, 27), (14, 28), (15, 29), (16, 30), (17, 31)] := hl.symm.trans (by kernel_rfl)
              have p13 : vs 13 = _ := hp 13 (by decide) (by decide)
              have p17 : vs 17 = _ := hp 17 (by decide) (by decide)
              clear hp hl
              refine opgoal (_) (some 32) rfl rfl fun K hK => ?_
              refine Runs.mk ?_
              simp only [putAll]
              go_simp
              refine hK _ _ ?_ hS ((fun w => Below.refl _ w) W) _ rfl rfl
              first | rfl | go_simp | simp
            · -- 19: Op.binOp BinOp.geq 3 (Operand.tmp 32) (Operand.const (Value.int IntKind.i64 256)) 3  [(13, 'false')]
              intro l hl vs W hS hR hp
              obtain rfl : l = [(0, 14), (1, 15), (2, 16), (3, 17), (4, 18), (5, 19), (6, 20), (7, 21), (8, 22), (9, 23), (10, 24), (11, 25), (12, 26), (13, 27), (14, 28), (15, 29), (16, 30), (17, 31), (18, 32)] := hl.symm.trans (by kernel_rfl)
              have p13 : vs 13 = _ := hp 13 (by decide) (by decide)
              have p18 : vs 18 = _ := hp 18 (by decide) (by decide)
              clear hp hl
              refine opgoal (_) (some 33) rfl rfl fun K hK => ?_
              have hkk := hk256.out
              refine Runs.mk ?_
              simp only [putAll]
              go_simp
              refine hK _ _ ?_ hS ((fun w => Below.refl _ w) W) _ rfl rfl
              first | rfl | go_simp | simp
            · -- 20: Op.pick (Operand.tmp 27) (Operand.const (Value.bool true)) (Operand.tmp 33)
              intro l hl vs W hS hR hp
              obtain rfl : l = [(0, 14), (1, 15), (2, 16), (3, 17), (4, 18), (5, 19), (6, 20), (7, 21), (8, 22), (9, 23), (10, 24), (11, 25), (12, 26), (13, 27), (14, 28), (15, 29), (16, 30), (17, 31), (18, 32), (19, 33)] := hl.symm.trans (by kernel_rfl)
              have p13 : vs 13 = _ := hp 13 (by decide) (by decide)
              have p19 : vs 19 = _ := hp 19 (by decide) (by decide)
              clear hp hl
              refine opgoal (_) (some 34) rfl rfl fun K hK => ?_
              refine Runs.mk ?_
              simp only [putAll]
              go_simp
              refine hK _ _ ?_ hS ((fun w => Below.refl _ w) W) _ rfl rfl
              first | rfl | go_simp | simp
          · intro l hl vs W hS hR hp
            obtain rfl : l = [(0, 14), (1, 15), (2, 16), (3, 17), (4, 18), (5, 19), (6, 20), (7, 21), (8, 22), (9, 23), (10, 24), (11, 25), (12, 26), (13, 27), (14, 28), (15, 29), (16, 30), (17, 31), (18, 32), (19, 33), (20, 34)] := hl.symm.trans (by kernel_rfl)
            have p0 : vs 0 = _ := hp 0 (by decide) (by decide)
            have p1 : vs 1 = _ := hp 1 (by decide) (by decide)
            have p2 : vs 2 = _ := hp 2 (by decide) (by decide)
            have p3 : vs 3 = _ := hp 3 (by decide) (by decide)
            have p4 : vs 4 = _ := hp 4 (by decide) (by decide)
            have p5 : vs 5 = _ := hp 5 (by decide) (by decide)
            have p6 : vs 6 = _ := hp 6 (by decide) (by decide)
            have p7 : vs 7 = _ := hp 7 (by decide) (by decide)
            have p8 : vs 8 = _ := hp 8 (by decide) (by decide)
            have p9 : vs 9 = _ := hp 9 (by decide) (by decide)
            have p10 : vs 10 = _ := hp 10 (by decide) (by decide)
            have p11 : vs 11 = _ := hp 11 (by decide) (by decide)
            have p12 : vs 12 = _ := hp 12 (by decide) (by decide)
            have p13 : vs 13 = _ := hp 13 (by decide) (by decide)
            have p14 : vs 14 = _ := hp 14 (by decide) (by decide)
            have p15 : vs 15 = _ := hp 15 (by decide) (by decide)
            have p16 : vs 16 = _ := hp 16 (by decide) (by decide)
            have p17 : vs 17 = _ := hp 17 (by decide) (by decide)
            have p18 : vs 18 = _ := hp 18 (by decide) (by decide)
            have p19 : vs 19 = _ := hp 19 (by decide) (by decide)
            have p20 : vs 20 = _ := hp 20 (by decide) (by decide)
            clear hp hl
            simp only [putAll_mk, setAll, List.setIfInBounds_toArray, List.set_cons_succ, List.set_cons_zero, p0, p1, p2, p3, p4, p5, p6, p7, p8, p9, p10, p11, p12, p13, p14, p15, p16, p17, p18, p19, p20]
            have HS := Lib.hid hS
            clear hS hR hS0
            obtain ⟨W7, hW7⟩ : ∃ W7, W = W7 := ⟨_, rfl⟩
            rw [hW7] at HS ⊢
            clear hW7
            go_wp2_with fail
            have hS0 := HPS.out _ HS.out
            refine wp_region_done (fun d => PushN b mb nodes n f W7.heap.size xb VV L k px py ps pq (d 7) (d 10)) (fun u v => Keep (b :: VV.ownBlock.toList) u v) (fun k u v => (k = 7 → (fun u v => Keep VV.ownBlock.toList u v) u v) ∧ (k = 10 → (fun u v => Keep [b] u v) u v) ∧ (¬ k = 7 → ¬ k = 10 → (fun u v => Below u.heap.size u v) u v)) (fun a i => match i with
                | 0 => (fun v _ => v = .pointer (some ⟨b, 0, none⟩))
                | 1 => (fun v _ => v = .pointer (some ⟨b, 0, none⟩))
                | 2 => (fun v _ => v = .pointer (some ⟨b, 0, none⟩))
                | 3 => (fun v _ => v = .pointer (some ⟨b, 2, none⟩))
                | 4 => (fun v _ => v = .slice VA k vc)
                | 5 => (fun v _ => v = .agg #[.int .i64 px, .int .i64 py, .string ps, .bool pq])
                | 6 => (fun v W => ∃ j, v = .slice (some ⟨j, 0, none⟩) 1 1 ∧ j < W.heap.size ∧ W.heap[j]? = some (.cells #[.int .i64 px, .int .i64 py, .string ps, .bool pq] PT (0, 0)))
                | 7 => (fun v W => W.ownsRow (b + 1) PT 4 v (k + 1) (L ++ [.int .i64 px, .int .i64 py, .string ps, .bool pq]) ∧ (v.ownBlock = VV.ownBlock ∨ ∀ k, v.ownBlock = some k → W7.heap.size ≤ k))
                | 8 => (fun v _ => v = .pointer (some ⟨b, 0, none⟩))
                | 9 => (fun v _ => v = .pointer (some ⟨b, 2, none⟩))
                | 10 => (fun v W => True)
                | _ => (fun _ _ => True)) #[0, 0, 2, 6, 14, 0, 32, 126, 255, 511, 1023] #[0, 0, 2, 4, 8, 0, 32, 80, 1, 256, 640] 1855 (by kernel_rfl) 11 rfl (fun m hm => by subst hm; kernel_rfl) (by kernel_rfl) (fun w => Keep.refl _ w) (fun u v w h1 h2 => h1.trans h2) ?_ ?_ (hS0) ?_ ?_
            · intro k u v hk hr
              by_cases hs7 : k = 7
              · have h := hr.1 hs7; exact h.mono (by intro x hx; exact List.mem_cons_of_mem _ hx)
              by_cases hs10 : k = 10
              · have h := hr.2.1 hs10; exact h.mono (by simp)
              have h := hr.2.2 hs7 hs10; exact Keep.of_below h
            · intro i hi
              rcases (by omega : i = 0 ∨ i = 1 ∨ i = 2 ∨ i = 3 ∨ i = 4 ∨ i = 5 ∨ i = 6 ∨ i = 7 ∨ i = 8 ∨ i = 9 ∨ i = 10) with rfl | rfl | rfl | rfl | rfl | rfl | rfl | rfl | rfl | rfl | rfl
              · intro k hk y hy hyt v w w' h hr
                exact h
              · intro k hk y hy hyt v w w' h hr
                exact h
              · intro k hk y hy hyt v w w' h hr
                exact h
              · intro k hk y hy hyt v w w' h hr
                exact h
              · intro k hk y hy hyt v w w' h hr
                exact h
              · intro k hk y hy hyt v w w' h hr
                exact h
              · intro k hk y hy hyt v w w' h hr
                by_cases hs7 : k = 7
                · have hr0 := hr.1 hs7
                  subst hs7
                  exact absurd (hy.trans hyt) (ne_true_of_eq_false (by kernel_rfl))
                by_cases hs10 : k = 10
                · have hr0 := hr.2.1 hs10
                  subst hs10
                  exact absurd (hy.trans hyt) (ne_true_of_eq_false (by kernel_rfl))
                have hr := hr.2.2 hs7 hs10
                obtain ⟨j, h1, h2, h3⟩ := h; exact ⟨j, h1, Nat.lt_of_lt_of_le h2 hr.size, (hr.block j h2).trans h3⟩
              · intro k hk y hy hyt v w w' h hr
                by_cases hs7 : k = 7
                · have hr0 := hr.1 hs7
                  subst hs7
                  exact absurd (hy.trans hyt) (ne_true_of_eq_false (by kernel_rfl))
                by_cases hs10 : k = 10
                · have hr0 := hr.2.1 hs10
                  subst hs10
                  exact absurd (hy.trans hyt) (ne_true_of_eq_false (by kernel_rfl))
                have hr := hr.2.2 hs7 hs10
                exact ⟨own_kept h.1 hr, h.2⟩
              · intro k hk y hy hyt v w w' h hr
                exact h
              · intro k hk y hy hyt v w w' h hr
                exact h
              · intro k hk y hy hyt v w w' h hr
                by_cases hs7 : k = 7
                · have hr0 := hr.1 hs7
                  subst hs7
                  exact absurd (hy.trans hyt) (ne_true_of_eq_false (by kernel_rfl))
                by_cases hs10 : k = 10
                · have hr0 := hr.2.1 hs10
                  subst hs10
                  exact absurd (hy.trans hyt) (ne_true_of_eq_false (by kernel_rfl))
                have hr := hr.2.2 hs7 hs10
                exact trivial
            · intro i hi
              rcases (by omega : i = 0 ∨ i = 1 ∨ i = 2 ∨ i = 3 ∨ i = 4 ∨ i = 5 ∨ i = 6 ∨ i = 7 ∨ i = 8 ∨ i = 9 ∨ i = 10) with rfl | rfl | rfl | rfl | rfl | rfl | rfl | rfl | rfl | rfl | rfl
              · -- 0: Op.move (Operand.tmp 0)
                intro l hl vs W dn e1 e2 e3 hS hR hp
                have f7 : dn 7 = dn 7 := rfl
                have f10 : dn 10 = false := e3 10 (by kernel_rfl)
                replace hS : (PushN b mb nodes n f W7.heap.size xb VV L k px py ps pq (dn 7) (dn 10)) W := hS
                rw [f10] at hS
                have g7 : (dn 7 || ((0 : Nat) == 7)) = dn 7 := Bool.or_false _
                have g10 : (dn 10 || ((0 : Nat) == 10)) = false := by rw [f10]; rfl
                refine OpGoal.imp (S1 := PushN b mb nodes n f W7.heap.size xb VV L k px py ps pq (dn 7) false) (fun W' h => ?_) ?_
                · show (PushN b mb nodes n f W7.heap.size xb VV L k px py ps pq (dn 7 || ((0 : Nat) == 7)) (dn 10 || ((0 : Nat) == 10))) W'
                  rw [g7, g10]
                  exact h
                clear g7 g10 e1 e2 e3
                obtain rfl : l = [] := hl.symm.trans (by kernel_rfl)
                clear hp hl
                refine opgoal (_) (some 37) rfl rfl fun K hK => ?_
                refine Runs.mk ?_
                simp only [putAll]
                go_simp
                refine hK _ _ ?_ hS ⟨fun h => absurd h (by decide), fun h => absurd h (by decide), fun h7 h10 => ((fun w => Below.refl _ w) W)⟩ _ rfl rfl
                first | rfl | go_simp | simp
              · -- 1: Op.move (Operand.tmp 0)
                intro l hl vs W dn e1 e2 e3 hS hR hp
                have f7 : dn 7 = false := e3 7 (by kernel_rfl)
                have f10 : dn 10 = false := e3 10 (by kernel_rfl)
                replace hS : (PushN b mb nodes n f W7.heap.size xb VV L k px py ps pq (dn 7) (dn 10)) W := hS
                rw [f7, f10] at hS
                have g7 : (dn 7 || ((1 : Nat) == 7)) = false := by rw [f7]; rfl
                have g10 : (dn 10 || ((1 : Nat) == 10)) = false := by rw [f10]; rfl
                refine OpGoal.imp (S1 := PushN b mb nodes n f W7.heap.size xb VV L k px py ps pq false false) (fun W' h => ?_) ?_
                · show (PushN b mb nodes n f W7.heap.size xb VV L k px py ps pq (dn 7 || ((1 : Nat) == 7)) (dn 10 || ((1 : Nat) == 10))) W'
                  rw [g7, g10]
                  exact h
                clear g7 g10 e1 e2 e3
                obtain rfl : l = [] := hl.symm.trans (by kernel_rfl)
                clear hp hl
                refine opgoal (_) (some 38) rfl rfl fun K hK => ?_
                refine Runs.mk ?_
                simp only [putAll]
                go_simp
                refine hK _ _ ?_ hS ⟨fun h => absurd h (by decide), fun h => absurd h (by decide), fun h7 h10 => ((fun w => Below.refl _ w) W)⟩ _ rfl rfl
                first | rfl | go_simp | simp
              · -- 2: Op.nilCheck (Operand.tmp 38)
                intro l hl vs W dn e1 e2 e3 hS hR hp
                have f7 : dn 7 = false := e3 7 (by kernel_rfl)
                have f10 : dn 10 = false := e3 10 (by kernel_rfl)
                replace hS : (PushN b mb nodes n f W7.heap.size xb VV L k px py ps pq (dn 7) (dn 10)) W := hS
                rw [f7, f10] at hS
                have g7 : (dn 7 || ((2 : Nat) == 7)) = false := by rw [f7]; rfl
                have g10 : (dn 10 || ((2 : Nat) == 10)) = false := by rw [f10]; rfl
                refine OpGoal.imp (S1 := PushN b mb nodes n f W7.heap.size xb VV L k px py ps pq false false) (fun W' h => ?_) ?_
                · show (PushN b mb nodes n f W7.heap.size xb VV L k px py ps pq (dn 7 || ((2 : Nat) == 7)) (dn 10 || ((2 : Nat) == 10))) W'
                  rw [g7, g10]
                  exact h
                clear g7 g10 e1 e2 e3
                obtain rfl : l = [(1, 38)] := hl.symm.trans (by kernel_rfl)
                have p1 : vs 1 = _ := hp 1 (by decide) (by decide)
                clear hp hl
                refine opgoal (_) (some 39) rfl rfl fun K hK => ?_
                refine Runs.mk ?_
                simp only [putAll]
                go_simp
                refine hK _ _ ?_ hS ⟨fun h => absurd h (by decide), fun h => absurd h (by decide), fun h7 h10 => ((fun w => Below.refl _ w) W)⟩ _ rfl rfl
                first | rfl | go_simp | simp
              · -- 3: Op.fieldAddr 106 (Operand.tmp 39) 1
                intro l hl vs W dn e1 e2 e3 hS hR hp
                have f7 : dn 7 = false := e3 7 (by kernel_rfl)
                have f10 : dn 10 = false := e3 10 (by kernel_rfl)
                replace hS : (PushN b mb nodes n f W7.heap.size xb VV L k px py ps pq (dn 7) (dn 10)) W := hS
                rw [f7, f10] at hS
                have g7 : (dn 7 || ((3 : Nat) == 7)) = false := by rw [f7]; rfl
                have g10 : (dn 10 || ((3 : Nat) == 10)) = false := by rw [f10]; rfl
                refine OpGoal.imp (S1 := PushN b mb nodes n f W7.heap.size xb VV L k px py ps pq false false) (fun W' h => ?_) ?_
                · show (PushN b mb nodes n f W7.heap.size xb VV L k px py ps pq (dn 7 || ((3 : Nat) == 7)) (dn 10 || ((3 : Nat) == 10))) W'
                  rw [g7, g10]
                  exact h
                clear g7 g10 e1 e2 e3
                obtain rfl : l = [(1, 38), (2, 39)] := hl.symm.trans (by kernel_rfl)
                have p2 : vs 2 = _ := hp 2 (by decide) (by decide)
                clear hp hl
                refine opgoal (_) (some 40) rfl rfl fun K hK => ?_
                refine Runs.mk ?_
                simp only [putAll]
                go_simp
                refine hK _ _ ?_ hS ⟨fun h => absurd h (by decide), fun h => absurd h (by decide), fun h7 h10 => ((fun w => Below.refl _ w) W)⟩ _ rfl rfl
                first | rfl | go_simp | simp
              · -- 4: Op.load 22 (Operand.tmp 40)
                intro l hl vs W dn e1 e2 e3 hS hR hp
                have f7 : dn 7 = false := e3 7 (by kernel_rfl)
                have f10 : dn 10 = false := e3 10 (by kernel_rfl)
                replace hS : (PushN b mb nodes n f W7.heap.size xb VV L k px py ps pq (dn 7) (dn 10)) W := hS
                rw [f7, f10] at hS
                have g7 : (dn 7 || ((4 : Nat) == 7)) = false := by rw [f7]; rfl
                have g10 : (dn 10 || ((4 : Nat) == 10)) = false := by rw [f10]; rfl
                refine OpGoal.imp (S1 := PushN b mb nodes n f W7.heap.size xb VV L k px py ps pq false false) (fun W' h => ?_) ?_
                · show (PushN b mb nodes n f W7.heap.size xb VV L k px py ps pq (dn 7 || ((4 : Nat) == 7)) (dn 10 || ((4 : Nat) == 10))) W'
                  rw [g7, g10]
                  exact h
                clear g7 g10 e1 e2 e3
                obtain rfl : l = [(1, 38), (2, 39), (3, 40)] := hl.symm.trans (by kernel_rfl)
                have p3 : vs 3 = _ := hp 3 (by decide) (by decide)
                clear hp hl
                refine opgoal (_) (some 41) rfl rfl fun K hK => ?_
                have hc1 : W.cell? ⟨b, 2, none⟩ = some VV := (hS.blk rfl).2
                rw [hVV.out] at hc1
                refine Runs.mk ?_
                simp only [putAll]
                go_simp
                refine hK _ _ ?_ hS ⟨fun h => absurd h (by decide), fun h => absurd h (by decide), fun h7 h10 => ((fun w => Below.refl _ w) W)⟩ _ rfl rfl
                first | rfl | go_simp | simp
              · -- 5: Op.load 29 (Operand.tmp 7)
                intro l hl vs W dn e1 e2 e3 hS hR hp
                have f7 : dn 7 = false := e3 7 (by kernel_rfl)
                have f10 : dn 10 = false := e3 10 (by kernel_rfl)
                replace hS : (PushN b mb nodes n f W7.heap.size xb VV L k px py ps pq (dn 7) (dn 10)) W := hS
                rw [f7, f10] at hS
                have g7 : (dn 7 || ((5 : Nat) == 7)) = false := by rw [f7]; rfl
                have g10 : (dn 10 || ((5 : Nat) == 10)) = false := by rw [f10]; rfl
                refine OpGoal.imp (S1 := PushN b mb nodes n f W7.heap.size xb VV L k px py ps pq false false) (fun W' h => ?_) ?_
                · show (PushN b mb nodes n f W7.heap.size xb VV L k px py ps pq (dn 7 || ((5 : Nat) == 7)) (dn 10 || ((5 : Nat) == 10))) W'
                  rw [g7, g10]
                  exact h
                clear g7 g10 e1 e2 e3
                obtain rfl : l = [] := hl.symm.trans (by kernel_rfl)
                clear hp hl
                refine opgoal (_) (some 42) rfl rfl fun K hK => ?_
                obtain ⟨c0, c1, c2, c3⟩ := pk_cells hS.ent
                refine Runs.mk ?_
                simp only [putAll]
                go_simp
                refine hK _ _ ?_ hS ⟨fun h => absurd h (by decide), fun h => absurd h (by decide), fun h7 h10 => ((fun w => Below.refl _ w) W)⟩ _ rfl rfl
                first | rfl | go_simp | simp
              · -- 6: Op.buildSlice 22 1 #[(0, Operand.tmp 42)]
                intro l hl vs W dn e1 e2 e3 hS hR hp
                have f7 : dn 7 = false := e3 7 (by kernel_rfl)
                have f10 : dn 10 = false := e3 10 (by kernel_rfl)
                replace hS : (PushN b mb nodes n f W7.heap.size xb VV L k px py ps pq (dn 7) (dn 10)) W := hS
                rw [f7, f10] at hS
                have g7 : (dn 7 || ((6 : Nat) == 7)) = false := by rw [f7]; rfl
                have g10 : (dn 10 || ((6 : Nat) == 10)) = false := by rw [f10]; rfl
                refine OpGoal.imp (S1 := PushN b mb nodes n f W7.heap.size xb VV L k px py ps pq false false) (fun W' h => ?_) ?_
                · show (PushN b mb nodes n f W7.heap.size xb VV L k px py ps pq (dn 7 || ((6 : Nat) == 7)) (dn 10 || ((6 : Nat) == 10))) W'
                  rw [g7, g10]
                  exact h
                clear g7 g10 e1 e2 e3
                obtain rfl : l = [(5, 42)] := hl.symm.trans (by kernel_rfl)
                have p5 : vs 5 = _ := hp 5 (by decide) (by decide)
                clear hp hl
                refine opgoal (_) (some 43) rfl rfl fun K hK => ?_
                refine Runs.mk ?_
                simp only [putAll]
                go_simp
                have hb := below_alloc W (.cells #[.int .i64 px, .int .i64 py, .string ps, .bool pq] PT)
                exact hK _ _ ⟨W.heap.size, rfl, by simp, heap_alloc_new _ _⟩ (hS.below hb) ⟨(fun h => absurd h (by decide)), (fun h => absurd h (by decide)), fun h7 h10 => hb⟩ _ rfl rfl
              · -- 7: Op.call { callee := Callee.builtin Builtin.append, args := #[Operand.tmp 41, Operand.tmp 43], argTypes := #[22, 22] }
                intro l hl vs W dn e1 e2 e3 hS hR hp
                have f7 : dn 7 = false := e1
                have f10 : dn 10 = false := e3 10 (by kernel_rfl)
                replace hS : (PushN b mb nodes n f W7.heap.size xb VV L k px py ps pq (dn 7) (dn 10)) W := hS
                rw [f7, f10] at hS
                have g7 : (dn 7 || ((7 : Nat) == 7)) = true := by rw [f7]; rfl
                have g10 : (dn 10 || ((7 : Nat) == 10)) = false := by rw [f10]; rfl
                refine OpGoal.imp (S1 := PushN b mb nodes n f W7.heap.size xb VV L k px py ps pq true false) (fun W' h => ?_) ?_
                · show (PushN b mb nodes n f W7.heap.size xb VV L k px py ps pq (dn 7 || ((7 : Nat) == 7)) (dn 10 || ((7 : Nat) == 10))) W'
                  rw [g7, g10]
                  exact h
                clear g7 g10 e1 e2 e3
                obtain rfl : l = [(1, 38), (2, 39), (3, 40), (4, 41), (5, 42), (6, 43)] := hl.symm.trans (by kernel_rfl)
                have p4 : vs 4 = _ := hp 4 (by decide) (by decide)
                have p6 : (fun v W => ∃ j, v = .slice (some ⟨j, 0, none⟩) 1 1 ∧ j < W.heap.size ∧ W.heap[j]? = some (.cells #[.int .i64 px, .int .i64 py, .string ps, .bool pq] PT (0, 0))) (vs 6) W := hp 6 (by decide) (by decide)
                dsimp only at p6
                clear hp hl
                obtain ⟨j, q6, l6, b6⟩ := p6
                refine opgoal ({ dst := some 44, op := Op.call { callee := Callee.builtin Builtin.append, args := #[Operand.tmp 41, Operand.tmp 43], argTypes := #[22, 22] }, type := 22, pos := "net.go:70", after := #[{ on := 4, ground := Ground.data }, { on := 6, ground := Ground.data }], guard := none }) (some 44) rfl rfl fun K hK => ?_
                refine runs_append_src W (wanted_none rfl) (.tmp 41) (.tmp 43) (b + 1) 22 PT (.agg #[.int .i64 0, .int .i64 0, .string ⟨#[]⟩, .bool false]) 4 40 rfl (by kernel_rfl) (by kernel_rfl) rfl (by decide) (by decide) VV k L (by simp [putAll, Act.put, Act.eval, p4, hVV.out]) (hS.own rfl) (some ⟨j, 0, none⟩) 1 1 (by simp [putAll, Act.put, Act.eval, q6]) (fun h => by cases h) [.int .i64 px, .int .i64 py, .string ps, .bool pq] rfl (lies_block b6) (by simp [Value.oneCell']) (by have := hk256.out; omega) (by have := hS.szw; have := hS.sb; omega) ?_
                intro v' w' h1 h2 h3
                have hkk : Keep VV.ownBlock.toList W w' := keep_grown h2 _ (fun j hj _ => by simp [hj])
                exact hK _ _ ⟨h1, h3.elim (fun h => .inl h) (fun h => .inr fun k hk => (by rw [h] at hk; cases hk; exact hS.szw))⟩ (hS.app hkk) ⟨(fun _ => hkk), (fun h => absurd h (by decide)), fun h7 h10 => absurd rfl h7⟩ _ put_dfs (put_slot (by simp))
              · -- 8: Op.nilCheck (Operand.tmp 37)
                intro l hl vs W dn e1 e2 e3 hS hR hp
                have f7 : dn 7 = true := e2 7 (by kernel_rfl)
                have f10 : dn 10 = false := e3 10 (by kernel_rfl)
                replace hS : (PushN b mb nodes n f W7.heap.size xb VV L k px py ps pq (dn 7) (dn 10)) W := hS
                rw [f7, f10] at hS
                have g7 : (dn 7 || ((8 : Nat) == 7)) = true := by rw [f7]; rfl
                have g10 : (dn 10 || ((8 : Nat) == 10)) = false := by rw [f10]; rfl
                refine OpGoal.imp (S1 := PushN b mb nodes n f W7.heap.size xb VV L k px py ps pq true false) (fun W' h => ?_) ?_
                · show (PushN b mb nodes n f W7.heap.size xb VV L k px py ps pq (dn 7 || ((8 : Nat) == 7)) (dn 10 || ((8 : Nat) == 10))) W'
                  rw [g7, g10]
                  exact h
                clear g7 g10 e1 e2 e3
                obtain rfl : l = [(0, 37), (1, 38), (2, 39), (3, 40), (4, 41), (5, 42), (6, 43), (7, 44)] := hl.symm.trans (by kernel_rfl)
                have p0 : vs 0 = _ := hp 0 (by decide) (by decide)
                clear hp hl
                refine opgoal (_) (some 45) rfl rfl fun K hK => ?_
                refine Runs.mk ?_
                simp only [putAll]
                go_simp
                refine hK _ _ ?_ hS ⟨fun h => absurd h (by decide), fun h => absurd h (by decide), fun h7 h10 => ((fun w => Below.refl _ w) W)⟩ _ rfl rfl
                first | rfl | go_simp | simp
              · -- 9: Op.fieldAddr 106 (Operand.tmp 45) 1
                intro l hl vs W dn e1 e2 e3 hS hR hp
                have f7 : dn 7 = true := e2 7 (by kernel_rfl)
                have f10 : dn 10 = false := e3 10 (by kernel_rfl)
                replace hS : (PushN b mb nodes n f W7.heap.size xb VV L k px py ps pq (dn 7) (dn 10)) W := hS
                rw [f7, f10] at hS
                have g7 : (dn 7 || ((9 : Nat) == 7)) = true := by rw [f7]; rfl
                have g10 : (dn 10 || ((9 : Nat) == 10)) = false := by rw [f10]; rfl
                refine OpGoal.imp (S1 := PushN b mb nodes n f W7.heap.size xb VV L k px py ps pq true false) (fun W' h => ?_) ?_
                · show (PushN b mb nodes n f W7.heap.size xb VV L k px py ps pq (dn 7 || ((9 : Nat) == 7)) (dn 10 || ((9 : Nat) == 10))) W'
                  rw [g7, g10]
                  exact h
                clear g7 g10 e1 e2 e3
                obtain rfl : l = [(0, 37), (1, 38), (2, 39), (3, 40), (4, 41), (5, 42), (6, 43), (7, 44), (8, 45)] := hl.symm.trans (by kernel_rfl)
                have p8 : vs 8 = _ := hp 8 (by decide) (by decide)
                clear hp hl
                refine opgoal (_) (some 46) rfl rfl fun K hK => ?_
                refine Runs.mk ?_
                simp only [putAll]
                go_simp
                refine hK _ _ ?_ hS ⟨fun h => absurd h (by decide), fun h => absurd h (by decide), fun h7 h10 => ((fun w => Below.refl _ w) W)⟩ _ rfl rfl
                first | rfl | go_simp | simp
              · -- 10: Op.store 22 (Operand.tmp 46) (Operand.tmp 44)
                intro l hl vs W dn e1 e2 e3 hS hR hp
                have f7 : dn 7 = true := e2 7 (by kernel_rfl)
                have f10 : dn 10 = false := e1
                replace hS : (PushN b mb nodes n f W7.heap.size xb VV L k px py ps pq (dn 7) (dn 10)) W := hS
                rw [f7, f10] at hS
                have g7 : (dn 7 || ((10 : Nat) == 7)) = true := by rw [f7]; rfl
                have g10 : (dn 10 || ((10 : Nat) == 10)) = true := by rw [f10]; rfl
                refine OpGoal.imp (S1 := PushN b mb nodes n f W7.heap.size xb VV L k px py ps pq true true) (fun W' h => ?_) ?_
                · show (PushN b mb nodes n f W7.heap.size xb VV L k px py ps pq (dn 7 || ((10 : Nat) == 7)) (dn 10 || ((10 : Nat) == 10))) W'
                  rw [g7, g10]
                  exact h
                clear g7 g10 e1 e2 e3
                obtain rfl : l = [(0, 37), (1, 38), (2, 39), (3, 40), (4, 41), (5, 42), (6, 43), (7, 44), (8, 45), (9, 46)] := hl.symm.trans (by kernel_rfl)
                have p7 : (fun v W => W.ownsRow (b + 1) PT 4 v (k + 1) (L ++ [.int .i64 px, .int .i64 py, .string ps, .bool pq]) ∧ (v.ownBlock = VV.ownBlock ∨ ∀ k, v.ownBlock = some k → W7.heap.size ≤ k)) (vs 7) W := hp 7 (by decide) (by decide)
                dsimp only at p7
                have p9 : vs 9 = _ := hp 9 (by decide) (by decide)
                clear hp hl
                obtain ⟨o7, r7⟩ := p7
                refine opgoal (_) (none) rfl rfl fun K hK => ?_
                obtain ⟨A', c', q7⟩ := own_form4 o7
                rw [q7] at o7 r7
                have hc1 : W.cell? ⟨b, 2, none⟩ = some VV := (hS.blk rfl).2
                have hf1 : W.frozen? ⟨b, 2, none⟩ = false := frozen_of_row W _ _ _ _ (hS.blk rfl).1
                refine Runs.mk ?_
                simp only [putAll]
                go_simp
                exact hK undef _ trivial (hS.fin o7 r7) ⟨(fun h => absurd h (by decide)), (fun _ => (Keep.refl _ _).setCell (p := ⟨b, 2, none⟩) (.inl (by simp)) _), fun h7 h10 => absurd rfl h10⟩ _ rfl rfl
            · intro l hl vs W dn hd hS hR hp
              replace hS : (PushN b mb nodes n f W7.heap.size xb VV L k px py ps pq (dn 7) (dn 10)) W := hS
              rw [hd 7 (by decide), hd 10 (by decide)] at hS
              obtain rfl : l = [(0, 37), (1, 38), (2, 39), (3, 40), (4, 41), (5, 42), (6, 43), (7, 44), (8, 45), (9, 46)] := hl.symm.trans (by kernel_rfl)
              have p0 : vs 0 = _ := hp 0 (by decide) (by decide)
              have p1 : vs 1 = _ := hp 1 (by decide) (by decide)
              have p2 : vs 2 = _ := hp 2 (by decide) (by decide)
              have p3 : vs 3 = _ := hp 3 (by decide) (by decide)
              have p4 : vs 4 = _ := hp 4 (by decide) (by decide)
              have p5 : vs 5 = _ := hp 5 (by decide) (by decide)
              have p8 : vs 8 = _ := hp 8 (by decide) (by decide)
              have p9 : vs 9 = _ := hp 9 (by decide) (by decide)
              have p10 : (fun v W => True) (vs 10) W := hp 10 (by decide) (by decide)
              dsimp only at p10
              clear hp hl
              simp only [putAll_mk, setAll, List.setIfInBounds_toArray, List.set_cons_succ, List.set_cons_zero, p0, p1, p2, p3, p4, p5, p8, p9]
              have HS7 := Lib.hid hS
              have HR7 := Lib.hid hR
              clear hS hR p10
              go_wp2
              go_roundw
              case rel => exact HREL.out _ _ HS.out HS7.out HR7.out _ (by go_num)
              case measure => simp [intOf]; omega
    · obtain rfl : kk = N := by omega
      have hF' := hF.out
      rw [List.drop_eq_nil_of_le (by have := HL.out; omega)] at hF'
      simp only [sendL, Nat.add_zero] at hF'
      obtain ⟨rfl, rfl⟩ := hF'
      have HZ := Lib.hid (⟨VV, hnt, hl256, hch⟩ : ∃ v', Nt wr b mb nodes n f v' (Lk.flatMap encP) Lk.length ∧ Lk.length ≤ 256 ∧ ChN b v w v' wr)
      clear hnt hch hF
      go_wp2
      go_ret
      exact ⟨rfl, HZ.out⟩
end Go.Proofs.Ytbdcgfdchkbcnaa.Ne

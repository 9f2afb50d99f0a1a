/- net: the document's Send. -/
import Derived.Test.YtbdcgfdchkbcnaaNeU
namespace Go.Proofs.Ytbdcgfdchkbcnaa.Ne
open Go.RowKit Go.Proofs.Ytbdcgfdchkbcnaa.L Go.Proofs.Ytbdcgfdchkbcnaa.O Go.Proofs.Ytbdcgfdchkbcnaa.R Go.Proofs.Ytbdcgfdchkbcnaa.A Go.Proofs.Ytbdcgfdchkbcnaa.S Go.Proofs.Ytbdcgfdchkbcnaa.T Go.Proofs.Ytbdcgfdchkbcnaa.C Go.Proofs.Ytbdcgfdchkbcnaa.G Go.Proofs.Ytbdcgfdchkbcnaa.E
set_option linter.unusedVariables false
set_option linter.unusedSimpArgs false

structure GK (d : Nat) (vL vC vL' vC' : Value) (w w' : World) : Prop where
  keep : Keep [d] w w'
  l : vL' = vL ∨ ∀ k, vL'.ownBlock = some k → w.heap.size ≤ k
  c : vC' = vC ∨ ∀ k, vC'.ownBlock = some k → w.heap.size ≤ k
theorem GK.refl (d : Nat) (vL vC : Value) (w : World) : GK d vL vC vL vC w w := ⟨Keep.refl _ _, .inl rfl, .inl rfl⟩
theorem GK.trans {d : Nat} {vL vC vL1 vC1 vL2 vC2 : Value} {w w1 w2 : World} (h : GK d vL vC vL1 vC1 w w1) (k : GK d vL1 vC1 vL2 vC2 w1 w2) : GK d vL vC vL2 vC2 w w2 := by
  have hs := h.keep.size
  refine ⟨h.keep.trans k.keep, ?_, ?_⟩
  · rcases k.l with e | e
    · rw [e]; exact h.l
    · exact .inr fun j hj => Nat.le_trans hs (e j hj)
  · rcases k.c with e | e
    · rw [e]; exact h.c
    · exact .inr fun j hj => Nat.le_trans hs (e j hj)
theorem GK.below {d : Nat} {vL vC vL1 vC1 : Value} {w w1 w2 : World} (h : GK d vL vC vL1 vC1 w w1) (hb : Below w1.heap.size w1 w2) : GK d vL vC vL1 vC1 w w2 := ⟨h.keep.trans (.of_below hb), h.l, h.c⟩
set_option maxHeartbeats 16000000 in
set_option maxRecDepth 100000 in
theorem dsend_any (d nodes : Nat) (f : Int → Int → Bool) (vL vC : Value) (Ls ps : List Pkt) (cs : List (Int × Int)) (A : Option Addr) (N c : Nat) (w : World) (h : Dd w d nodes vL Ls vC cs) (hk : Ls.length ≤ 256) (hcs : cs.length ≤ 1000000)
    (hcoh : ∀ x y, wholeB nodes f x y = (okW nodes x y && !cutL cs x y)) (hrd : RdE w A N 4 (ps.map encP)) (hoff : 0 < N → ∀ o, A = some o → o.block ≠ d) :
    Calls Try.prog 26 #[.pointer (some ⟨d, 0, none⟩), .slice A N c] w fun e w' => e = .returned (.int .i64 ((sendL nodes f ps Ls).2 : Int)) ∧ GD d nodes vL vC (sendL nodes f ps Ls).1 cs w w' := by
  have hn9 := hrd.2.1
  have HL : Hid (ps.length = N) := Lib.hid (by have := hrd.1; simpa using this)
  have HRD : Hid (∀ w', Keep [d] w w' → RdE w' A N 4 (ps.map encP)) := Lib.hid fun w' hc => hrd.keep hc fun hN o hA hm => hoff hN o hA (by simpa using hm)
  obtain ⟨cF, hcF⟩ : ∃ cF, Hid ((sendL nodes f ps Ls).2 = cF) := ⟨_, Lib.hid rfl⟩
  obtain ⟨LF, hLF⟩ : ∃ LF, Hid ((sendL nodes f ps Ls).1 = LF) := ⟨_, Lib.hid rfl⟩
  rw [hcF.out, hLF.out]
  have HH := Lib.hid (And.intro h hk)
  have HCO := Lib.hid hcoh
  clear h hk hrd hoff hcoh
  go_enter Try.func26, Try.ntmps26
  go_wp2
  go_loopw [5, 6] (fun u i wr => ∃ (kk m : Nat) (Lk : List Pkt) (vLk vCk : Value), kk ≤ N ∧ m ≤ kk ∧ i = .int .i64 kk ∧ u = .int .i64 m ∧ Dd wr d nodes vLk Lk vCk cs ∧ Lk.length ≤ 256 ∧ GK d vL vC vLk vCk w wr ∧ Hid ((sendL nodes f (ps.drop kk) Lk).1 = LF ∧ m + (sendL nodes f (ps.drop kk) Lk).2 = cF)) (fun _ i _ => N - (intOf i).toNat)
  case atStart => exact ⟨0, 0, Ls, vL, vC, by omega, by omega, rfl, rfl, HH.out.1, HH.out.2, GK.refl _ _ _ _, Lib.hid ⟨hLF.out, by rw [Nat.zero_add]; exact hcF.out⟩⟩
  case round =>
    obtain ⟨kk, m, Lk, vLk, vCk, hkN, hmk, rfl, rfl, hdd, hl256, hgk, hF⟩ := hrel
    by_cases hlt : kk < N
    · have hkl : kk < ps.length := by have := HL.out; omega
      obtain ⟨⟨px, py, pS, pq⟩, hp⟩ : ∃ p : Pkt, Hid (ps[kk] = p) := ⟨_, Lib.hid rfl⟩
      have hrw := HRD.out _ hgk.keep
      obtain ⟨ab, ao, hA, -⟩ := pkt_at hrw kk hlt hkl _ hp.out
      have HSR : Hid (∀ W, Below wr.heap.size wr W → W.cell? ⟨ab, ao + kk * 4, none⟩ = some (.int .i64 px) ∧ W.cell? ⟨ab, ao + kk * 4 + 1, none⟩ = some (.int .i64 py) ∧ W.cell? ⟨ab, ao + kk * 4 + 2, none⟩ = some (.string pS) ∧ W.cell? ⟨ab, ao + kk * 4 + 3, none⟩ = some (.bool pq)) := Lib.hid fun W hb => by
        obtain ⟨b9, f9, h9, d0, d1, d2, d3⟩ := pkt_at (hrw.below hb) kk hlt hkl _ hp.out
        rw [hA] at h9
        injection h9 with h9
        injection h9 with e1 e2
        subst e1; subst e2
        exact ⟨d0, d1, d2, d3⟩
      have hdr : ps.drop kk = ⟨px, py, pS, pq⟩ :: ps.drop (kk + 1) := by rw [← hp.out]; exact List.drop_eq_getElem_cons hkl
      have hF' := hF.out
      rw [hdr] at hF'
      simp only [sendL, HCO.out px py] at hF'
      obtain ⟨AL, cL, hv, hAL, hLL, -⟩ := dd_whole hdd
      obtain ⟨nL, hn⟩ : ∃ nL, Lk.length = nL := ⟨_, rfl⟩
      have HRT : Hid (∀ W, Below wr.heap.size wr W → Calls Try.prog 68 #[.pointer (some ⟨d, 0, none⟩), .int .i64 px, .int .i64 py] W fun e w' => e = .returned (.bool (okW nodes px py)) ∧ W = w') := Lib.hid fun W hb => right_any d nodes px py W (hdd.below hb).cell.1
      have HCT : Hid (∀ W, Below wr.heap.size wr W → Calls Try.prog 69 #[.pointer (some ⟨d, 0, none⟩), .int .i64 px, .int .i64 py] W fun e w' => e = .returned (.bool (cutL cs px py)) ∧ Below W.heap.size W w') := Lib.hid fun W hb => dcut_any d nodes vLk vCk Lk cs px py W (hdd.below hb) hcs
      obtain ⟨okv, hok⟩ : ∃ v, okW nodes px py = v := ⟨_, rfl⟩
      obtain ⟨ctv, hct⟩ : ∃ v, cutL cs px py = v := ⟨_, rfl⟩
      rw [hok] at HRT hF'
      rw [hct] at HCT hF'
      rw [hn] at hv hl256 hF' hAL
      have HDD := Lib.hid hdd
      have HCL := Lib.hid hdd.cell.2.1
      rw [hv] at HCL
      have hVV : Hid (vLk = .slice AL nL cL) := Lib.hid hv
      have HLT := Lib.hid hlt
      have HGK := Lib.hid hgk
      have HAL := Lib.hid hAL
      have HLL := Lib.hid hLL
      have HN := Lib.hid hn
      subst hA
      clear hrw hdr hF hp hdd hgk hv hAL hLL hok hct hkl hn
      cases okv with
      | false =>
        simp only [Bool.false_and, Bool.false_eq_true, if_false] at hF'
        have HF := Lib.hid hF'
        have HREL : Hid (∀ W', Below wr.heap.size wr W' → Dd W' d nodes vLk Lk vCk cs ∧ Lk.length ≤ 256 ∧ GK d vL vC vLk vCk w W' ∧ Hid ((sendL nodes f (ps.drop (kk + 1)) Lk).1 = LF ∧ m + 1 + (sendL nodes f (ps.drop (kk + 1)) Lk).2 = cF)) := Lib.hid fun W' hb => ⟨HDD.out.below hb, by rw [HN.out]; exact hl256, HGK.out.below hb, Lib.hid ⟨HF.out.1, by have := HF.out.2; omega⟩⟩
        clear hF'
        go_wp2_with fail
        refine wp_region_one (fun W' => Below wr.heap.size wr W') (fun u v => Below u.heap.size u v) (fun a i => match i with
            | 0 => (fun v _ => v = .pointer (some ⟨d, 0, none⟩))
            | 1 => (fun v _ => v = .slice (some ⟨ab, ao, none⟩) N c)
            | 2 => (fun v _ => v = .int .i64 (kk : Int))
            | 3 => (fun v _ => v = .pointer (some ⟨ab, ao + kk * 4, none⟩))
            | 4 => (fun v _ => v = .pointer (some ⟨ab, ao + kk * 4, none⟩))
            | 5 => (fun v _ => v = .int .i64 px)
            | 6 => (fun v _ => v = .slice (some ⟨ab, ao, none⟩) N c)
            | 7 => (fun v _ => v = .int .i64 (kk : Int))
            | 8 => (fun v _ => v = .pointer (some ⟨ab, ao + kk * 4, none⟩))
            | 9 => (fun v _ => v = .pointer (some ⟨ab, ao + kk * 4 + 1, none⟩))
            | 10 => (fun v _ => v = .int .i64 py)
            | 11 => (fun v _ => v = .bool false)
            | 12 => (fun v _ => v = .bool true)
            | 13 => (fun v _ => v = .bool true)
            | 14 => (fun v _ => v = undef)
            | 15 => (fun v _ => v = undef)
            | 16 => (fun v _ => v = undef)
            | 17 => (fun v _ => v = undef)
            | 18 => (fun v _ => v = undef)
            | 19 => (fun v _ => v = undef)
            | 20 => (fun v _ => v = undef)
            | 21 => (fun v _ => v = undef)
            | 22 => (fun v _ => v = undef)
            | 23 => (fun v _ => v = undef)
            | 24 => (fun v _ => v = undef)
            | 25 => (fun v _ => v = undef)
            | 26 => (fun v _ => v = .bool true)
            | 27 => (fun v _ => v = .bool true)
            | 28 => (fun v _ => v = undef)
            | 29 => (fun v _ => v = undef)
            | 30 => (fun v _ => v = undef)
            | 31 => (fun v _ => v = undef)
            | 32 => (fun v _ => v = undef)
            | 33 => (fun v _ => v = undef)
            | 34 => (fun v _ => v = .bool true)
            | _ => (fun _ _ => True)) #[0, 0, 0, 6, 14, 30, 0, 0, 192, 448, 960, 2047, 4095, 8191, 16383, 16383, 16383, 114687, 245759, 507903, 16383, 16383, 3162111, 7356415, 15745023, 33554431, 67108863, 134217727, 268435455, 536870911, 1073741823, 2147483647, 4294967295, 8589934591, 17179869183] #[0, 0, 0, 6, 8, 16, 0, 0, 192, 256, 512, 1057, 2048, 4096, 8192, 8192, 8192, 106496, 139264, 270336, 8192, 8192, 3153920, 4202496, 8396800, 17326080, 33562624, 67108864, 134217728, 402653184, 671088640, 1207959552, 2281701376, 4429185024, 8724152320] 34359738367 (by kernel_rfl) 35 rfl (fun m hm => by subst hm; kernel_rfl) (by kernel_rfl) (fun w => Below.refl _ w) (fun u v w h1 h2 => below2 h1 h2) ?_ (below_drewN 1 wr) ?_ ?_
        · intro i hi
          rcases (by omega : i = 0 ∨ i = 1 ∨ i = 2 ∨ i = 3 ∨ i = 4 ∨ i = 5 ∨ i = 6 ∨ i = 7 ∨ i = 8 ∨ i = 9 ∨ i = 10 ∨ i = 11 ∨ i = 12 ∨ i = 13 ∨ i = 14 ∨ i = 15 ∨ i = 16 ∨ i = 17 ∨ i = 18 ∨ i = 19 ∨ i = 20 ∨ i = 21 ∨ i = 22 ∨ i = 23 ∨ i = 24 ∨ i = 25 ∨ i = 26 ∨ i = 27 ∨ i = 28 ∨ i = 29 ∨ i = 30 ∨ i = 31 ∨ i = 32 ∨ i = 33 ∨ i = 34) with rfl | rfl | rfl | rfl | rfl | rfl | rfl | rfl | rfl | rfl | rfl | rfl | rfl | rfl | rfl | rfl | rfl | rfl | rfl | rfl | rfl | rfl | rfl | rfl | rfl | rfl | rfl | rfl | rfl | rfl | rfl | rfl | rfl | rfl | rfl
          · exact fun v w w' h hr => by exact h
          · exact fun v w w' h hr => by exact h
          · exact fun v w w' h hr => by exact h
          · exact fun v w w' h hr => by exact h
          · exact fun v w w' h hr => by exact h
          · exact fun v w w' h hr => by exact h
          · exact fun v w w' h hr => by exact h
          · exact fun v w w' h hr => by exact h
          · exact fun v w w' h hr => by exact h
          · exact fun v w w' h hr => by exact h
          · exact fun v w w' h hr => by exact h
          · exact fun v w w' h hr => by exact h
          · exact fun v w w' h hr => by exact h
          · exact fun v w w' h hr => by exact h
          · exact fun v w w' h hr => by exact h
          · exact fun v w w' h hr => by exact h
          · exact fun v w w' h hr => by exact h
          · exact fun v w w' h hr => by exact h
          · exact fun v w w' h hr => by exact h
          · exact fun v w w' h hr => by exact h
          · exact fun v w w' h hr => by exact h
          · exact fun v w w' h hr => by exact h
          · exact fun v w w' h hr => by exact h
          · exact fun v w w' h hr => by exact h
          · exact fun v w w' h hr => by exact h
          · exact fun v w w' h hr => by exact h
          · exact fun v w w' h hr => by exact h
          · exact fun v w w' h hr => by exact h
          · exact fun v w w' h hr => by exact h
          · exact fun v w w' h hr => by exact h
          · exact fun v w w' h hr => by exact h
          · exact fun v w w' h hr => by exact h
          · exact fun v w w' h hr => by exact h
          · exact fun v w w' h hr => by exact h
          · exact fun v w w' h hr => by exact h
        · intro i hi
          rcases (by omega : i = 0 ∨ i = 1 ∨ i = 2 ∨ i = 3 ∨ i = 4 ∨ i = 5 ∨ i = 6 ∨ i = 7 ∨ i = 8 ∨ i = 9 ∨ i = 10 ∨ i = 11 ∨ i = 12 ∨ i = 13 ∨ i = 14 ∨ i = 15 ∨ i = 16 ∨ i = 17 ∨ i = 18 ∨ i = 19 ∨ i = 20 ∨ i = 21 ∨ i = 22 ∨ i = 23 ∨ i = 24 ∨ i = 25 ∨ i = 26 ∨ i = 27 ∨ i = 28 ∨ i = 29 ∨ i = 30 ∨ i = 31 ∨ i = 32 ∨ i = 33 ∨ i = 34) with rfl | rfl | rfl | rfl | rfl | rfl | rfl | rfl | rfl | rfl | rfl | rfl | rfl | rfl | rfl | rfl | rfl | rfl | rfl | rfl | rfl | rfl | rfl | rfl | rfl | rfl | rfl | rfl | rfl | rfl | rfl | rfl | rfl | rfl | rfl
          · -- 0: Op.move (Operand.tmp 0)
            intro l hl vs W hS hR hp
            obtain rfl : l = [] := hl.symm.trans (by kernel_rfl)
            clear hp hl
            refine opgoal (_) (some 13) rfl rfl fun K hK => ?_
            refine Runs.mk ?_
            simp only [putAll]
            go_simp
            refine hK _ _ ?_ hS ((fun w => Below.refl _ w) W) _ rfl rfl
            first | rfl | go_simp | simp
          · -- 1: Op.move (Operand.tmp 1)
            intro l hl vs W hS hR hp
            obtain rfl : l = [] := hl.symm.trans (by kernel_rfl)
            clear hp hl
            refine opgoal (_) (some 14) rfl rfl fun K hK => ?_
            refine Runs.mk ?_
            simp only [putAll]
            go_simp
            refine hK _ _ ?_ hS ((fun w => Below.refl _ w) W) _ rfl rfl
            first | rfl | go_simp | simp
          · -- 2: Op.move (Operand.tmp 6)
            intro l hl vs W hS hR hp
            obtain rfl : l = [] := hl.symm.trans (by kernel_rfl)
            clear hp hl
            refine opgoal (_) (some 15) rfl rfl fun K hK => ?_
            refine Runs.mk ?_
            simp only [putAll]
            go_simp
            refine hK _ _ ?_ hS ((fun w => Below.refl _ w) W) _ rfl rfl
            first | rfl | go_simp | simp
          · -- 3: Op.indexAddr 47 (Operand.tmp 14) (Operand.tmp 15)
            intro l hl vs W hS hR hp
            obtain rfl : l = [(1, 14), (2, 15)] := hl.symm.trans (by kernel_rfl)
            have p1 : vs 1 = _ := hp 1 (by decide) (by decide)
            have p2 : vs 2 = _ := hp 2 (by decide) (by decide)
            clear hp hl
            refine opgoal (_) (some 16) rfl rfl fun K hK => ?_
            have hlt' := HLT.out
            refine Runs.mk ?_
            simp only [putAll]
            go_simp
            refine hK _ _ ?_ hS ((fun w => Below.refl _ w) W) _ rfl rfl
            first | rfl | go_simp | simp
          · -- 4: Op.fieldAddr 49 (Operand.tmp 16) 0
            intro l hl vs W hS hR hp
            obtain rfl : l = [(1, 14), (2, 15), (3, 16)] := hl.symm.trans (by kernel_rfl)
            have p3 : vs 3 = _ := hp 3 (by decide) (by decide)
            clear hp hl
            refine opgoal (_) (some 17) rfl rfl fun K hK => ?_
            refine Runs.mk ?_
            simp only [putAll]
            go_simp
            refine hK _ _ ?_ hS ((fun w => Below.refl _ w) W) _ rfl rfl
            first | rfl | go_simp | simp
          · -- 5: Op.load 3 (Operand.tmp 17)
            intro l hl vs W hS hR hp
            obtain rfl : l = [(1, 14), (2, 15), (3, 16), (4, 17)] := hl.symm.trans (by kernel_rfl)
            have p4 : vs 4 = _ := hp 4 (by decide) (by decide)
            clear hp hl
            refine opgoal (_) (some 18) rfl rfl fun K hK => ?_
            obtain ⟨f0, f1, f2, f3⟩ := HSR.out W hS
            refine Runs.mk ?_
            simp only [putAll]
            go_simp
            refine hK _ _ ?_ hS ((fun w => Below.refl _ w) W) _ rfl rfl
            first | rfl | go_simp | simp
          · -- 6: Op.move (Operand.tmp 1)
            intro l hl vs W hS hR hp
            obtain rfl : l = [] := hl.symm.trans (by kernel_rfl)
            clear hp hl
            refine opgoal (_) (some 19) rfl rfl fun K hK => ?_
            refine Runs.mk ?_
            simp only [putAll]
            go_simp
            refine hK _ _ ?_ hS ((fun w => Below.refl _ w) W) _ rfl rfl
            first | rfl | go_simp | simp
          · -- 7: Op.move (Operand.tmp 6)
            intro l hl vs W hS hR hp
            obtain rfl : l = [] := hl.symm.trans (by kernel_rfl)
            clear hp hl
            refine opgoal (_) (some 20) rfl rfl fun K hK => ?_
            refine Runs.mk ?_
            simp only [putAll]
            go_simp
            refine hK _ _ ?_ hS ((fun w => Below.refl _ w) W) _ rfl rfl
            first | rfl | go_simp | simp
          · -- 8: Op.indexAddr 47 (Operand.tmp 19) (Operand.tmp 20)
            intro l hl vs W hS hR hp
            obtain rfl : l = [(6, 19), (7, 20)] := hl.symm.trans (by kernel_rfl)
            have p6 : vs 6 = _ := hp 6 (by decide) (by decide)
            have p7 : vs 7 = _ := hp 7 (by decide) (by decide)
            clear hp hl
            refine opgoal (_) (some 21) rfl rfl fun K hK => ?_
            have hlt' := HLT.out
            refine Runs.mk ?_
            simp only [putAll]
            go_simp
            refine hK _ _ ?_ hS ((fun w => Below.refl _ w) W) _ rfl rfl
            first | rfl | go_simp | simp
          · -- 9: Op.fieldAddr 49 (Operand.tmp 21) 1
            intro l hl vs W hS hR hp
            obtain rfl : l = [(6, 19), (7, 20), (8, 21)] := hl.symm.trans (by kernel_rfl)
            have p8 : vs 8 = _ := hp 8 (by decide) (by decide)
            clear hp hl
            refine opgoal (_) (some 22) rfl rfl fun K hK => ?_
            refine Runs.mk ?_
            simp only [putAll]
            go_simp
            refine hK _ _ ?_ hS ((fun w => Below.refl _ w) W) _ rfl rfl
            first | rfl | go_simp | simp
          · -- 10: Op.load 3 (Operand.tmp 22)
            intro l hl vs W hS hR hp
            obtain rfl : l = [(6, 19), (7, 20), (8, 21), (9, 22)] := hl.symm.trans (by kernel_rfl)
            have p9 : vs 9 = _ := hp 9 (by decide) (by decide)
            clear hp hl
            refine opgoal (_) (some 23) rfl rfl fun K hK => ?_
            obtain ⟨f0, f1, f2, f3⟩ := HSR.out W hS
            refine Runs.mk ?_
            simp only [putAll]
            go_simp
            refine hK _ _ ?_ hS ((fun w => Below.refl _ w) W) _ rfl rfl
            first | rfl | go_simp | simp
          · -- 11: Op.call { callee := Callee.value (Operand.func 68), args := #[Operand.tmp 13, Operand.tmp 18, Operand.tmp 23], argTypes := #[44, 3, 3] }
            intro l hl vs W hS hR hp
            obtain rfl : l = [(0, 13), (1, 14), (2, 15), (3, 16), (4, 17), (5, 18), (6, 19), (7, 20), (8, 21), (9, 22), (10, 23)] := hl.symm.trans (by kernel_rfl)
            have p0 : vs 0 = _ := hp 0 (by decide) (by decide)
            have p5 : vs 5 = _ := hp 5 (by decide) (by decide)
            have p10 : vs 10 = _ := hp 10 (by decide) (by decide)
            clear hp hl
            refine opgoal (_) (some 24) rfl rfl fun K hK => ?_
            refine Runs.mk ?_
            simp only [putAll]
            go_simp
            refine (HRT.out W hS).mono ?_
            rintro e w' ⟨rfl, rfl⟩
            go_simp
            exact hK _ _ rfl hS (Below.refl _ _) _ rfl rfl
          · -- 12: Op.unOp UnOp.not 4 (Operand.tmp 24)
            intro l hl vs W hS hR hp
            obtain rfl : l = [(0, 13), (1, 14), (2, 15), (3, 16), (4, 17), (5, 18), (6, 19), (7, 20), (8, 21), (9, 22), (10, 23), (11, 24)] := hl.symm.trans (by kernel_rfl)
            have p11 : vs 11 = _ := hp 11 (by decide) (by decide)
            clear hp hl
            refine opgoal (_) (some 25) rfl rfl fun K hK => ?_
            refine Runs.mk ?_
            simp only [putAll]
            go_simp
            refine hK _ _ ?_ hS ((fun w => Below.refl _ w) W) _ rfl rfl
            first | rfl | go_simp | simp
          · -- 13: Op.move (Operand.tmp 25)
            intro l hl vs W hS hR hp
            obtain rfl : l = [(0, 13), (1, 14), (2, 15), (3, 16), (4, 17), (5, 18), (6, 19), (7, 20), (8, 21), (9, 22), (10, 23), (11, 24), (12, 25)] := hl.symm.trans (by kernel_rfl)
            have p12 : vs 12 = _ := hp 12 (by decide) (by decide)
            clear hp hl
            refine opgoal (_) (some 26) rfl rfl fun K hK => ?_
            refine Runs.mk ?_
            simp only [putAll]
            go_simp
            refine hK _ _ ?_ hS ((fun w => Below.refl _ w) W) _ rfl rfl
            first | rfl | go_simp | simp
          · -- 14: Op.move (Operand.tmp 0)  [(13, 'false')]
            intro l hl vs W hS hR hp
            obtain rfl : l = [(0, 13), (1, 14), (2, 15), (3, 16), (4, 17), (5, 18), (6, 19), (7, 20), (8, 21), (9, 22), (10, 23), (11, 24), (12, 25), (13, 26)] := hl.symm.trans (by kernel_rfl)
            have p13 : vs 13 = _ := hp 13 (by decide) (by decide)
            clear hp hl
            refine opgoal (_) (some 27) rfl rfl fun K hK => ?_
            refine Runs.mk ?_
            simp only [putAll]
            go_simp
            refine hK _ _ ?_ hS ((fun w => Below.refl _ w) W) _ rfl rfl
            first | rfl | go_simp | simp
          · -- 15: Op.move (Operand.tmp 1)  [(13, 'false')]
            intro l hl vs W hS hR hp
            obtain rfl : l = [(0, 13), (1, 14), (2, 15), (3, 16), (4, 17), (5, 18), (6, 19), (7, 20), (8, 21), (9, 22), (10, 23), (11, 24), (12, 25), (13, 26)] := hl.symm.trans (by kernel_rfl)
            have p13 : vs 13 = _ := hp 13 (by decide) (by decide)
            clear hp hl
            refine opgoal (_) (some 28) rfl rfl fun K hK => ?_
            refine Runs.mk ?_
            simp only [putAll]
            go_simp
            refine hK _ _ ?_ hS ((fun w => Below.refl _ w) W) _ rfl rfl
            first | rfl | go_simp | simp
          · -- 16: Op.move (Operand.tmp 6)  [(13, 'false')]
            intro l hl vs W hS hR hp
            obtain rfl : l = [(0, 13), (1, 14), (2, 15), (3, 16), (4, 17), (5, 18), (6, 19), (7, 20), (8, 21), (9, 22), (10, 23), (11, 24), (12, 25), (13, 26)] := hl.symm.trans (by kernel_rfl)
            have p13 : vs 13 = _ := hp 13 (by decide) (by decide)
            clear hp hl
            refine opgoal (_) (some 29) rfl rfl fun K hK => ?_
            refine Runs.mk ?_
            simp only [putAll]
            go_simp
            refine hK _ _ ?_ hS ((fun w => Below.refl _ w) W) _ rfl rfl
            first | rfl | go_simp | simp
          · -- 17: Op.indexAddr 47 (Operand.tmp 28) (Operand.tmp 29)  [(13, 'false')]
            intro l hl vs W hS hR hp
            obtain rfl : l = [(0, 13), (1, 14), (2, 15), (3, 16), (4, 17), (5, 18), (6, 19), (7, 20), (8, 21), (9, 22), (10, 23), (11, 24), (12, 25), (13, 26), (15, 28), (16, 29)] := hl.symm.trans (by kernel_rfl)
            have p13 : vs 13 = _ := hp 13 (by decide) (by decide)
            have p15 : vs 15 = _ := hp 15 (by decide) (by decide)
            have p16 : vs 16 = _ := hp 16 (by decide) (by decide)
            clear hp hl
            refine opgoal (_) (some 30) rfl rfl fun K hK => ?_
            refine Runs.mk ?_
            simp only [putAll]
            go_simp
            refine hK _ _ ?_ hS ((fun w => Below.refl _ w) W) _ rfl rfl
            first | rfl | go_simp | simp
          · -- 18: Op.fieldAddr 49 (Operand.tmp 30) 0  [(13, 'false')]
            intro l hl vs W hS hR hp
            obtain rfl : l = [(0, 13), (1, 14), (2, 15), (3, 16), (4, 17), (5, 18), (6, 19), (7, 20), (8, 21), (9, 22), (10, 23), (11, 24), (12, 25), (13, 26), (15, 28), (16, 29), (17, 30)] := hl.symm.trans (by kernel_rfl)
            have p13 : vs 13 = _ := hp 13 (by decide) (by decide)
            have p17 : vs 17 = _ := hp 17 (by decide) (by decide)
            clear hp hl
            refine opgoal (_) (some 31) rfl rfl fun K hK => ?_
            refine Runs.mk ?_
            simp only [putAll]
            go_simp
            refine hK _ _ ?_ hS ((fun w => Below.refl _ w) W) _ rfl rfl
            first | rfl | go_simp | simp
          · -- 19: Op.load 3 (Operand.tmp 31)  [(13, 'false')]
            intro l hl vs W hS hR hp
            obtain rfl : l = [(0, 13), (1, 14), (2, 15), (3, 16), (4, 17), (5, 18), (6, 19), (7, 20), (8, 21), (9, 22), (10, 23), (11, 24), (12, 25), (13, 26), (15, 28), (16, 29), (17, 30), (18, 31)] := hl.symm.trans (by kernel_rfl)
            have p13 : vs 13 = _ := hp 13 (by decide) (by decide)
            have p18 : vs 18 = _ := hp 18 (by decide) (by decide)
            clear hp hl
            refine opgoal (_) (some 32) rfl rfl fun K hK => ?_
            refine Runs.mk ?_
            simp only [putAll]
            go_simp
            refine hK _ _ ?_ hS ((fun w => Below.refl _ w) W) _ rfl rfl
            first | rfl | go_simp | simp
          · -- 20: Op.move (Operand.tmp 1)  [(13, 'false')]
            intro l hl vs W hS hR hp
            obtain rfl : l = [(0, 13), (1, 14), (2, 15), (3, 16), (4, 17), (5, 18), (6, 19), (7, 20), (8, 21), (9, 22), (10, 23), (11, 24), (12, 25), (13, 26)] := hl.symm.trans (by kernel_rfl)
            have p13 : vs 13 = _ := hp 13 (by decide) (by decide)
            clear hp hl
            refine opgoal (_) (some 33) rfl rfl fun K hK => ?_
            refine Runs.mk ?_
            simp only [putAll]
            go_simp
            refine hK _ _ ?_ hS ((fun w => Below.refl _ w) W) _ rfl rfl
            first | rfl | go_simp | simp
          · -- 21: Op.move (Operand.tmp 6)  [(13, 'false')]
            intro l hl vs W hS hR hp
            obtain rfl : l = [(0, 13), (1, 14), (2, 15), (3, 16), (4, 17), (5, 18), (6, 19), (7, 20), (8, 21), (9, 22), (10, 23), (11, 24), (12, 25), (13, 26)] := hl.symm.trans (by kernel_rfl)
            have p13 : vs 13 = _ := hp 13 (by decide) (by decide)
            clear hp hl
            refine opgoal (_) (some 34) rfl rfl fun K hK => ?_
            refine Runs.mk ?_
            simp only [putAll]
            go_simp
            refine hK _ _ ?_ hS ((fun w => Below.refl _ w) W) _ rfl rfl
            first | rfl | go_simp | simp
          · -- 22: Op.indexAddr 47 (Operand.tmp 33) (Operand.tmp 34)  [(13, 'false')]
            intro l hl vs W hS hR hp
            obtain rfl : l = [(0, 13), (1, 14), (2, 15), (3, 16), (4, 17), (5, 18), (6, 19), (7, 20), (8, 21), (9, 22), (10, 23), (11, 24), (12, 25), (13, 26), (20, 33), (21, 34)] := hl.symm.trans (by kernel_rfl)
            have p13 : vs 13 = _ := hp 13 (by decide) (by decide)
            have p20 : vs 20 = _ := hp 20 (by decide) (by decide)
            have p21 : vs 21 = _ := hp 21 (by decide) (by decide)
            clear hp hl
            refine opgoal (_) (some 35) rfl rfl fun K hK => ?_
            refine Runs.mk ?_
            simp only [putAll]
            go_simp
            refine hK _ _ ?_ hS ((fun w => Below.refl _ w) W) _ rfl rfl
            first | rfl | go_simp | simp
          · -- 23: Op.fieldAddr 49 (Operand.tmp 35) 1  [(13, 'false')]
            intro l hl vs W hS hR hp
            obtain rfl : l = [(0, 13), (1, 14), (2, 15), (3, 16), (4, 17), (5, 18), (6, 19), (7, 20), (8, 21), (9, 22), (10, 23), (11, 24), (12, 25), (13, 26), (20, 33), (21, 34), (22, 35)] := hl.symm.trans (by kernel_rfl)
            have p13 : vs 13 = _ := hp 13 (by decide) (by decide)
            have p22 : vs 22 = _ := hp 22 (by decide) (by decide)
            clear hp hl
            refine opgoal (_) (some 36) rfl rfl fun K hK => ?_
            refine Runs.mk ?_
            simp only [putAll]
            go_simp
            refine hK _ _ ?_ hS ((fun w => Below.refl _ w) W) _ rfl rfl
            first | rfl | go_simp | simp
          · -- 24: Op.load 3 (Operand.tmp 36)  [(13, 'false')]
            intro l hl vs W hS hR hp
            obtain rfl : l = [(0, 13), (1, 14), (2, 15), (3, 16), (4, 17), (5, 18), (6, 19), (7, 20), (8, 21), (9, 22), (10, 23), (11, 24), (12, 25), (13, 26), (20, 33), (21, 34), (22, 35), (23, 36)] := hl.symm.trans (by kernel_rfl)
            have p13 : vs 13 = _ := hp 13 (by decide) (by decide)
            have p23 : vs 23 = _ := hp 23 (by decide) (by decide)
            clear hp hl
            refine opgoal (_) (some 37) rfl rfl fun K hK => ?_
            refine Runs.mk ?_
            simp only [putAll]
            go_simp
            refine hK _ _ ?_ hS ((fun w => Below.refl _ w) W) _ rfl rfl
            first | rfl | go_simp | simp
          · -- 25: Op.call { callee := Callee.value (Operand.func 69), args := #[Operand.tmp 27, Operand.tmp 32, Operand.tmp 37], argTypes := #[44, 3, 3] }  [(13, 'false')]
            intro l hl vs W hS hR hp
            obtain rfl : l = [(0, 13), (1, 14), (2, 15), (3, 16), (4, 17), (5, 18), (6, 19), (7, 20), (8, 21), (9, 22), (10, 23), (11, 24), (12, 25), (13, 26), (14, 27), (15, 28), (16, 29), (17, 30), (18, 31), (19, 32), (20, 33), (21, 34), (22, 35), (23, 36), (24, 37)] := hl.symm.trans (by kernel_rfl)
            have p13 : vs 13 = _ := hp 13 (by decide) (by decide)
            have p14 : vs 14 = _ := hp 14 (by decide) (by decide)
            have p19 : vs 19 = _ := hp 19 (by decide) (by decide)
            have p24 : vs 24 = _ := hp 24 (by decide) (by decide)
            clear hp hl
            refine opgoal (_) (some 38) rfl rfl fun K hK => ?_
            refine Runs.mk ?_
            simp only [putAll]
            go_simp
            refine hK _ _ ?_ hS ((fun w => Below.refl _ w) W) _ rfl rfl
            first | rfl | go_simp | simp
          · -- 26: Op.pick (Operand.tmp 26) (Operand.const (Value.bool true)) (Operand.tmp 38)
            intro l hl vs W hS hR hp
            obtain rfl : l = [(0, 13), (1, 14), (2, 15), (3, 16), (4, 17), (5, 18), (6, 19), (7, 20), (8, 21), (9, 22), (10, 23), (11, 24), (12, 25), (13, 26), (14, 27), (15, 28), (16, 29), (17, 30), (18, 31), (19, 32), (20, 33), (21, 34), (22, 35), (23, 36), (24, 37), (25, 38)] := hl.symm.trans (by kernel_rfl)
            have p13 : vs 13 = _ := hp 13 (by decide) (by decide)
            have p25 : vs 25 = _ := hp 25 (by decide) (by decide)
            clear hp hl
            refine opgoal (_) (some 39) rfl rfl fun K hK => ?_
            refine Runs.mk ?_
            simp only [putAll]
            go_simp
            refine hK _ _ ?_ hS ((fun w => Below.refl _ w) W) _ rfl rfl
            first | rfl | go_simp | simp
          · -- 27: Op.move (Operand.tmp 39)
            intro l hl vs W hS hR hp
            obtain rfl : l = [(0, 13), (1, 14), (2, 15), (3, 16), (4, 17), (5, 18), (6, 19), (7, 20), (8, 21), (9, 22), (10, 23), (11, 24), (12, 25), (13, 26), (14, 27), (15, 28), (16, 29), (17, 30), (18, 31), (19, 32), (20, 33), (21, 34), (22, 35), (23, 36), (24, 37), (25, 38), (26, 39)] := hl.symm.trans (by kernel_rfl)
            have p26 : vs 26 = _ := hp 26 (by decide) (by decide)
            clear hp hl
            refine opgoal (_) (some 40) rfl rfl fun K hK => ?_
            refine Runs.mk ?_
            simp only [putAll]
            go_simp
            refine hK _ _ ?_ hS ((fun w => Below.refl _ w) W) _ rfl rfl
            first | rfl | go_simp | simp
          · -- 28: Op.move (Operand.tmp 0)  [(27, 'false')]
            intro l hl vs W hS hR hp
            obtain rfl : l = [(0, 13), (1, 14), (2, 15), (3, 16), (4, 17), (5, 18), (6, 19), (7, 20), (8, 21), (9, 22), (10, 23), (11, 24), (12, 25), (13, 26), (14, 27), (15, 28), (16, 29), (17, 30), (18, 31), (19, 32), (20, 33), (21, 34), (22, 35), (23, 36), (24, 37), (25, 38), (26, 39), (27, 40)] := hl.symm.trans (by kernel_rfl)
            have p27 : vs 27 = _ := hp 27 (by decide) (by decide)
            clear hp hl
            refine opgoal (_) (some 41) rfl rfl fun K hK => ?_
            refine Runs.mk ?_
            simp only [putAll]
            go_simp
            refine hK _ _ ?_ hS ((fun w => Below.refl _ w) W) _ rfl rfl
            first | rfl | go_simp | simp
          · -- 29: Op.nilCheck (Operand.tmp 41)  [(27, 'false')]
            intro l hl vs W hS hR hp
            obtain rfl : l = [(0, 13), (1, 14), (2, 15), (3, 16), (4, 17), (5, 18), (6, 19), (7, 20), (8, 21), (9, 22), (10, 23), (11, 24), (12, 25), (13, 26), (14, 27), (15, 28), (16, 29), (17, 30), (18, 31), (19, 32), (20, 33), (21, 34), (22, 35), (23, 36), (24, 37), (25, 38), (26, 39), (27, 40), (28, 41)] := hl.symm.trans (by kernel_rfl)
            have p27 : vs 27 = _ := hp 27 (by decide) (by decide)
            have p28 : vs 28 = _ := hp 28 (by decide) (by decide)
            clear hp hl
            refine opgoal (_) (some 42) rfl rfl fun K hK => ?_
            refine Runs.mk ?_
            simp only [putAll]
            go_simp
            refine hK _ _ ?_ hS ((fun w => Below.refl _ w) W) _ rfl rfl
            first | rfl | go_simp | simp
          · -- 30: Op.fieldAddr 56 (Operand.tmp 42) 1  [(27, 'false')]
            intro l hl vs W hS hR hp
            obtain rfl : l = [(0, 13), (1, 14), (2, 15), (3, 16), (4, 17), (5, 18), (6, 19), (7, 20), (8, 21), (9, 22), (10, 23), (11, 24), (12, 25), (13, 26), (14, 27), (15, 28), (16, 29), (17, 30), (18, 31), (19, 32), (20, 33), (21, 34), (22, 35), (23, 36), (24, 37), (25, 38), (26, 39), (27, 40), (28, 41), (29, 42)] := hl.symm.trans (by kernel_rfl)
            have p27 : vs 27 = _ := hp 27 (by decide) (by decide)
            have p29 : vs 29 = _ := hp 29 (by decide) (by decide)
            clear hp hl
            refine opgoal (_) (some 43) rfl rfl fun K hK => ?_
            refine Runs.mk ?_
            simp only [putAll]
            go_simp
            refine hK _ _ ?_ hS ((fun w => Below.refl _ w) W) _ rfl rfl
            first | rfl | go_simp | simp
          · -- 31: Op.load 47 (Operand.tmp 43)  [(27, 'false')]
            intro l hl vs W hS hR hp
            obtain rfl : l = [(0, 13), (1, 14), (2, 15), (3, 16), (4, 17), (5, 18), (6, 19), (7, 20), (8, 21), (9, 22), (10, 23), (11, 24), (12, 25), (13, 26), (14, 27), (15, 28), (16, 29), (17, 30), (18, 31), (19, 32), (20, 33), (21, 34), (22, 35), (23, 36), (24, 37), (25, 38), (26, 39), (27, 40), (28, 41), (29, 42), (30, 43)] := hl.symm.trans (by kernel_rfl)
            have p27 : vs 27 = _ := hp 27 (by decide) (by decide)
            have p30 : vs 30 = _ := hp 30 (by decide) (by decide)
            clear hp hl
            refine opgoal (_) (some 44) rfl rfl fun K hK => ?_
            refine Runs.mk ?_
            simp only [putAll]
            go_simp
            refine hK _ _ ?_ hS ((fun w => Below.refl _ w) W) _ rfl rfl
            first | rfl | go_simp | simp
          · -- 32: Op.call { callee := Callee.builtin Builtin.len, args := #[Operand.tmp 44], argTypes := #[47] }  [(27, 'false')]
            intro l hl vs W hS hR hp
            obtain rfl : l = [(0, 13), (1, 14), (2, 15), (3, 16), (4, 17), (5, 18), (6, 19), (7, 20), (8, 21), (9, 22), (10, 23), (11, 24), (12, 25), (13, 26), (14, 27), (15, 28), (16, 29), (17, 30), (18, 31), (19, 32), (20, 33), (21, 34), (22, 35), (23, 36), (24, 37), (25, 38), (26, 39), (27, 40), (28, 41), (29, 42), (30, 43), (31, 44)] := hl.symm.trans (by kernel_rfl)
            have p27 : vs 27 = _ := hp 27 (by decide) (by decide)
            have p31 : vs 31 = _ := hp 31 (by decide) (by decide)
            clear hp hl
            refine opgoal (_) (some 45) rfl rfl fun K hK => ?_
            refine Runs.mk ?_
            simp only [putAll]
            go_simp
            refine hK _ _ ?_ hS ((fun w => Below.refl _ w) W) _ rfl rfl
            first | rfl | go_simp | simp
          · -- 33: Op.binOp BinOp.geq 3 (Operand.tmp 45) (Operand.const (Value.int IntKind.i64 256)) 3  [(27, 'false')]
            intro l hl vs W hS hR hp
            obtain rfl : l = [(0, 13), (1, 14), (2, 15), (3, 16), (4, 17), (5, 18), (6, 19), (7, 20), (8, 21), (9, 22), (10, 23), (11, 24), (12, 25), (13, 26), (14, 27), (15, 28), (16, 29), (17, 30), (18, 31), (19, 32), (20, 33), (21, 34), (22, 35), (23, 36), (24, 37), (25, 38), (26, 39), (27, 40), (28, 41), (29, 42), (30, 43), (31, 44), (32, 45)] := hl.symm.trans (by kernel_rfl)
            have p27 : vs 27 = _ := hp 27 (by decide) (by decide)
            have p32 : vs 32 = _ := hp 32 (by decide) (by decide)
            clear hp hl
            refine opgoal (_) (some 46) rfl rfl fun K hK => ?_
            refine Runs.mk ?_
            simp only [putAll]
            go_simp
            refine hK _ _ ?_ hS ((fun w => Below.refl _ w) W) _ rfl rfl
            first | rfl | go_simp | simp
          · -- 34: Op.pick (Operand.tmp 40) (Operand.const (Value.bool true)) (Operand.tmp 46)
            intro l hl vs W hS hR hp
            obtain rfl : l = [(0, 13), (1, 14), (2, 15), (3, 16), (4, 17), (5, 18), (6, 19), (7, 20), (8, 21), (9, 22), (10, 23), (11, 24), (12, 25), (13, 26), (14, 27), (15, 28), (16, 29), (17, 30), (18, 31), (19, 32), (20, 33), (21, 34), (22, 35), (23, 36), (24, 37), (25, 38), (26, 39), (27, 40), (28, 41), (29, 42), (30, 43), (31, 44), (32, 45), (33, 46)] := hl.symm.trans (by kernel_rfl)
            have p27 : vs 27 = _ := hp 27 (by decide) (by decide)
            have p33 : vs 33 = _ := hp 33 (by decide) (by decide)
            clear hp hl
            refine opgoal (_) (some 47) rfl rfl fun K hK => ?_
            refine Runs.mk ?_
            simp only [putAll]
            go_simp
            refine hK _ _ ?_ hS ((fun w => Below.refl _ w) W) _ rfl rfl
            first | rfl | go_simp | simp
        · intro l hl vs W hS hR hp
          obtain rfl : l = [(0, 13), (1, 14), (2, 15), (3, 16), (4, 17), (5, 18), (6, 19), (7, 20), (8, 21), (9, 22), (10, 23), (11, 24), (12, 25), (13, 26), (14, 27), (15, 28), (16, 29), (17, 30), (18, 31), (19, 32), (20, 33), (21, 34), (22, 35), (23, 36), (24, 37), (25, 38), (26, 39), (27, 40), (28, 41), (29, 42), (30, 43), (31, 44), (32, 45), (33, 46), (34, 47)] := hl.symm.trans (by kernel_rfl)
          have p0 : vs 0 = _ := hp 0 (by decide) (by decide)
          have p1 : vs 1 = _ := hp 1 (by decide) (by decide)
          have p2 : vs 2 = _ := hp 2 (by decide) (by decide)
          have p3 : vs 3 = _ := hp 3 (by decide) (by decide)
          have p4 : vs 4 = _ := hp 4 (by decide) (by decide)
          have p5 : vs 5 = _ := hp 5 (by decide) (by decide)
          have p6 : vs 6 = _ := hp 6 (by decide) (by decide)
          have p7 : vs 7 = _ := hp 7 (by decide) (by decide)
          have p8 : vs 8 = _ := hp 8 (by decide) (by decide)
          have p9 : vs 9 = _ := hp 9 (by decide) (by decide)
          have p10 : vs 10 = _ := hp 10 (by decide) (by decide)
          have p11 : vs 11 = _ := hp 11 (by decide) (by decide)
          have p12 : vs 12 = _ := hp 12 (by decide) (by decide)
          have p13 : vs 13 = _ := hp 13 (by decide) (by decide)
          have p14 : vs 14 = _ := hp 14 (by decide) (by decide)
          have p15 : vs 15 = _ := hp 15 (by decide) (by decide)
          have p16 : vs 16 = _ := hp 16 (by decide) (by decide)
          have p17 : vs 17 = _ := hp 17 (by decide) (by decide)
          have p18 : vs 18 = _ := hp 18 (by decide) (by decide)
          have p19 : vs 19 = _ := hp 19 (by decide) (by decide)
          have p20 : vs 20 = _ := hp 20 (by decide) (by decide)
          have p21 : vs 21 = _ := hp 21 (by decide) (by decide)
          have p22 : vs 22 = _ := hp 22 (by decide) (by decide)
          have p23 : vs 23 = _ := hp 23 (by decide) (by decide)
          have p24 : vs 24 = _ := hp 24 (by decide) (by decide)
          have p25 : vs 25 = _ := hp 25 (by decide) (by decide)
          have p26 : vs 26 = _ := hp 26 (by decide) (by decide)
          have p27 : vs 27 = _ := hp 27 (by decide) (by decide)
          have p28 : vs 28 = _ := hp 28 (by decide) (by decide)
          have p29 : vs 29 = _ := hp 29 (by decide) (by decide)
          have p30 : vs 30 = _ := hp 30 (by decide) (by decide)
          have p31 : vs 31 = _ := hp 31 (by decide) (by decide)
          have p32 : vs 32 = _ := hp 32 (by decide) (by decide)
          have p33 : vs 33 = _ := hp 33 (by decide) (by decide)
          have p34 : vs 34 = _ := hp 34 (by decide) (by decide)
          clear hp hl
          simp only [putAll_mk, setAll, List.setIfInBounds_toArray, List.set_cons_succ, List.set_cons_zero, p0, p1, p2, p3, p4, p5, p6, p7, p8, p9, p10, p11, p12, p13, p14, p15, p16, p17, p18, p19, p20, p21, p22, p23, p24, p25, p26, p27, p28, p29, p30, p31, p32, p33, p34]
          have HS := Lib.hid hS
          clear hS hR
          go_wp2
          go_roundw
          case rel => exact ⟨kk + 1, m + 1, Lk, vLk, vCk, by omega, by omega, by go_num, by go_num, HREL.out _ HS.out⟩
          case measure => simp [intOf]; omega
      | true =>
        cases ctv with
        | true =>
          simp only [Bool.not_true, Bool.and_false, Bool.false_and, Bool.false_eq_true, if_false] at hF'
          have HF := Lib.hid hF'
          have HREL : Hid (∀ W', Below wr.heap.size wr W' → Dd W' d nodes vLk Lk vCk cs ∧ Lk.length ≤ 256 ∧ GK d vL vC vLk vCk w W' ∧ Hid ((sendL nodes f (ps.drop (kk + 1)) Lk).1 = LF ∧ m + 1 + (sendL nodes f (ps.drop (kk + 1)) Lk).2 = cF)) := Lib.hid fun W' hb => ⟨HDD.out.below hb, by rw [HN.out]; exact hl256, HGK.out.below hb, Lib.hid ⟨HF.out.1, by have := HF.out.2; omega⟩⟩
          clear hF'
          go_wp2_with fail
          refine wp_region_one (fun W' => Below wr.heap.size wr W') (fun u v => Below u.heap.size u v) (fun a i => match i with
              | 0 => (fun v _ => v = .pointer (some ⟨d, 0, none⟩))
              | 1 => (fun v _ => v = .slice (some ⟨ab, ao, none⟩) N c)
              | 2 => (fun v _ => v = .int .i64 (kk : Int))
              | 3 => (fun v _ => v = .pointer (some ⟨ab, ao + kk * 4, none⟩))
              | 4 => (fun v _ => v = .pointer (some ⟨ab, ao + kk * 4, none⟩))
              | 5 => (fun v _ => v = .int .i64 px)
              | 6 => (fun v _ => v = .slice (some ⟨ab, ao, none⟩) N c)
              | 7 => (fun v _ => v = .int .i64 (kk : Int))
              | 8 => (fun v _ => v = .pointer (some ⟨ab, ao + kk * 4, none⟩))
              | 9 => (fun v _ => v = .pointer (some ⟨ab, ao + kk * 4 + 1, none⟩))
              | 10 => (fun v _ => v = .int .i64 py)
              | 11 => (fun v _ => v = .bool true)
              | 12 => (fun v _ => v = .bool false)
              | 13 => (fun v _ => v = .bool false)
              | 14 => (fun v _ => v = .pointer (some ⟨d, 0, none⟩))
              | 15 => (fun v _ => v = .slice (some ⟨ab, ao, none⟩) N c)
              | 16 => (fun v _ => v = .int .i64 (kk : Int))
              | 17 => (fun v _ => v = .pointer (some ⟨ab, ao + kk * 4, none⟩))
              | 18 => (fun v _ => v = .pointer (some ⟨ab, ao + kk * 4, none⟩))
              | 19 => (fun v _ => v = .int .i64 px)
              | 20 => (fun v _ => v = .slice (some ⟨ab, ao, none⟩) N c)
              | 21 => (fun v _ => v = .int .i64 (kk : Int))
              | 22 => (fun v _ => v = .pointer (some ⟨ab, ao + kk * 4, none⟩))
              | 23 => (fun v _ => v = .pointer (some ⟨ab, ao + kk * 4 + 1, none⟩))
              | 24 => (fun v _ => v = .int .i64 py)
              | 25 => (fun v _ => v = .bool true)
              | 26 => (fun v _ => v = .bool true)
              | 27 => (fun v _ => v = .bool true)
              | 28 => (fun v _ => v = undef)
              | 29 => (fun v _ => v = undef)
              | 30 => (fun v _ => v = undef)
              | 31 => (fun v _ => v = undef)
              | 32 => (fun v _ => v = undef)
              | 33 => (fun v _ => v = undef)
              | 34 => (fun v _ => v = .bool true)
              | _ => (fun _ _ => True)) #[0, 0, 0, 6, 14, 30, 0, 0, 192, 448, 960, 2047, 4095, 8191, 16383, 16383, 16383, 114687, 245759, 507903, 16383, 16383, 3162111, 7356415, 15745023, 33554431, 67108863, 134217727, 268435455, 536870911, 1073741823, 2147483647, 4294967295, 8589934591, 17179869183] #[0, 0, 0, 6, 8, 16, 0, 0, 192, 256, 512, 1057, 2048, 4096, 8192, 8192, 8192, 106496, 139264, 270336, 8192, 8192, 3153920, 4202496, 8396800, 17326080, 33562624, 67108864, 134217728, 402653184, 671088640, 1207959552, 2281701376, 4429185024, 8724152320] 34359738367 (by kernel_rfl) 35 rfl (fun m hm => by subst hm; kernel_rfl) (by kernel_rfl) (fun w => Below.refl _ w) (fun u v w h1 h2 => below2 h1 h2) ?_ (below_drewN 1 wr) ?_ ?_
          · intro i hi
            rcases (by omega : i = 0 ∨ i = 1 ∨ i = 2 ∨ i = 3 ∨ i = 4 ∨ i = 5 ∨ i = 6 ∨ i = 7 ∨ i = 8 ∨ i = 9 ∨ i = 10 ∨ i = 11 ∨ i = 12 ∨ i = 13 ∨ i = 14 ∨ i = 15 ∨ i = 16 ∨ i = 17 ∨ i = 18 ∨ i = 19 ∨ i = 20 ∨ i = 21 ∨ i = 22 ∨ i = 23 ∨ i = 24 ∨ i = 25 ∨ i = 26 ∨ i = 27 ∨ i = 28 ∨ i = 29 ∨ i = 30 ∨ i = 31 ∨ i = 32 ∨ i = 33 ∨ i = 34) with rfl | rfl | rfl | rfl | rfl | rfl | rfl | rfl | rfl | rfl | rfl | rfl | rfl | rfl | rfl | rfl | rfl | rfl | rfl | rfl | rfl | rfl | rfl | rfl | rfl | rfl | rfl | rfl | rfl | rfl | rfl | rfl | rfl | rfl | rfl
            · exact fun v w w' h hr => by exact h
            · exact fun v w w' h hr => by exact h
            · exact fun v w w' h hr => by exact h
            · exact fun v w w' h hr => by exact h
            · exact fun v w w' h hr => by exact h
            · exact fun v w w' h hr => by exact h
            · exact fun v w w' h hr => by exact h
            · exact fun v w w' h hr => by exact h
            · exact fun v w w' h hr => by exact h
            · exact fun v w w' h hr => by exact h
            · exact fun v w w' h hr => by exact h
            · exact fun v w w' h hr => by exact h
            · exact fun v w w' h hr => by exact h
            · exact fun v w w' h hr => by exact h
            · exact fun v w w' h hr => by exact h
            · exact fun v w w' h hr => by exact h
            · exact fun v w w' h hr => by exact h
            · exact fun v w w' h hr => by exact h
            · exact fun v w w' h hr => by exact h
            · exact fun v w w' h hr => by exact h
            · exact fun v w w' h hr => by exact h
            · exact fun v w w' h hr => by exact h
            · exact fun v w w' h hr => by exact h
            · exact fun v w w' h hr => by exact h
            · exact fun v w w' h hr => by exact h
            · exact fun v w w' h hr => by exact h
            · exact fun v w w' h hr => by exact h
            · exact fun v w w' h hr => by exact h
            · exact fun v w w' h hr => by exact h
            · exact fun v w w' h hr => by exact h
            · exact fun v w w' h hr => by exact h
            · exact fun v w w' h hr => by exact h
            · exact fun v w w' h hr => by exact h
            · exact fun v w w' h hr => by exact h
            · exact fun v w w' h hr => by exact h
          · intro i hi
            rcases (by omega : i = 0 ∨ i = 1 ∨ i = 2 ∨ i = 3 ∨ i = 4 ∨ i = 5 ∨ i = 6 ∨ i = 7 ∨ i = 8 ∨ i = 9 ∨ i = 10 ∨ i = 11 ∨ i = 12 ∨ i = 13 ∨ i = 14 ∨ i = 15 ∨ i = 16 ∨ i = 17 ∨ i = 18 ∨ i = 19 ∨ i = 20 ∨ i = 21 ∨ i = 22 ∨ i = 23 ∨ i = 24 ∨ i = 25 ∨ i = 26 ∨ i = 27 ∨ i = 28 ∨ i = 29 ∨ i = 30 ∨ i = 31 ∨ i = 32 ∨ i = 33 ∨ i = 34) with rfl | rfl | rfl | rfl | rfl | rfl | rfl | rfl | rfl | rfl | rfl | rfl | rfl | rfl | rfl | rfl | rfl | rfl | rfl | rfl | rfl | rfl | rfl | rfl | rfl | rfl | rfl | rfl | rfl | rfl | rfl | rfl | rfl | rfl | rfl
            · -- 0: Op.move (Operand.tmp 0)
              intro l hl vs W hS hR hp
              obtain rfl : l = [] := hl.symm.trans (by kernel_rfl)
              clear hp hl
              refine opgoal (_) (some 13) rfl rfl fun K hK => ?_
              refine Runs.mk ?_
              simp only [putAll]
              go_simp
              refine hK _ _ ?_ hS ((fun w => Below.refl _ w) W) _ rfl rfl
              first | rfl | go_simp | simp
            · -- 1: Op.move (Operand.tmp 1)
              intro l hl vs W hS hR hp
              obtain rfl : l = [] := hl.symm.trans (by kernel_rfl)
              clear hp hl
              refine opgoal (_) (some 14) rfl rfl fun K hK => ?_
              refine Runs.mk ?_
              simp only [putAll]
              go_simp
              refine hK _ _ ?_ hS ((fun w => Below.refl _ w) W) _ rfl rfl
              first | rfl | go_simp | simp
            · -- 2: Op.move (Operand.tmp 6)
              intro l hl vs W hS hR hp
              obtain rfl : l = [] := hl.symm.trans (by kernel_rfl)
              clear hp hl
              refine opgoal (_) (some 15) rfl rfl fun K hK => ?_
              refine Runs.mk ?_
              simp only [putAll]
              go_simp
              refine hK _ _ ?_ hS ((fun w => Below.refl _ w) W) _ rfl rfl
              first | rfl | go_simp | simp
            · -- 3: Op.indexAddr 47 (Operand.tmp 14) (Operand.tmp 15)
              intro l hl vs W hS hR hp
              obtain rfl : l = [(1, 14), (2, 15)] := hl.symm.trans (by kernel_rfl)
              have p1 : vs 1 = _ := hp 1 (by decide) (by decide)
              have p2 : vs 2 = _ := hp 2 (by decide) (by decide)
              clear hp hl
              refine opgoal (_) (some 16) rfl rfl fun K hK => ?_
              have hlt' := HLT.out
              refine Runs.mk ?_
              simp only [putAll]
              go_simp
              refine hK _ _ ?_ hS ((fun w => Below.refl _ w) W) _ rfl rfl
              first | rfl | go_simp | simp
            · -- 4: Op.fieldAddr 49 (Operand.tmp 16) 0
              intro l hl vs W hS hR hp
              obtain rfl : l = [(1, 14), (2, 15), (3, 16)] := hl.symm.trans (by kernel_rfl)
              have p3 : vs 3 = _ := hp 3 (by decide) (by decide)
              clear hp hl
              refine opgoal (_) (some 17) rfl rfl fun K hK => ?_
              refine Runs.mk ?_
              simp only [putAll]
              go_simp
              refine hK _ _ ?_ hS ((fun w => Below.refl _ w) W) _ rfl rfl
              first | rfl | go_simp | simp
            · -- 5: Op.load 3 (Operand.tmp 17)
              intro l hl vs W hS hR hp
              obtain rfl : l = [(1, 14), (2, 15), (3, 16), (4, 17)] := hl.symm.trans (by kernel_rfl)
              have p4 : vs 4 = _ := hp 4 (by decide) (by decide)
              clear hp hl
              refine opgoal (_) (some 18) rfl rfl fun K hK => ?_
              obtain ⟨f0, f1, f2, f3⟩ := HSR.out W hS
              refine Runs.mk ?_
              simp only [putAll]
              go_simp
              refine hK _ _ ?_ hS ((fun w => Below.refl _ w) W) _ rfl rfl
              first | rfl | go_simp | simp
            · -- 6: Op.move (Operand.tmp 1)
              intro l hl vs W hS hR hp
              obtain rfl : l = [] := hl.symm.trans (by kernel_rfl)
              clear hp hl
              refine opgoal (_) (some 19) rfl rfl fun K hK => ?_
              refine Runs.mk ?_
              simp only [putAll]
              go_simp
              refine hK _ _ ?_ hS ((fun w => Below.refl _ w) W) _ rfl rfl
              first | rfl | go_simp | simp
            · -- 7: Op.move (Operand.tmp 6)
              intro l hl vs W hS hR hp
              obtain rfl : l = [] := hl.symm.trans (by kernel_rfl)
              clear hp hl
              refine opgoal (_) (some 20) rfl rfl fun K hK => ?_
              refine Runs.mk ?_
              simp only [putAll]
              go_simp
              refine hK _ _ ?_ hS ((fun w => Below.refl _ w) W) _ rfl rfl
              first | rfl | go_simp | simp
            · -- 8: Op.indexAddr 47 (Operand.tmp 19) (Operand.tmp 20)
              intro l hl vs W hS hR hp
              obtain rfl : l = [(6, 19), (7, 20)] := hl.symm.trans (by kernel_rfl)
              have p6 : vs 6 = _ := hp 6 (by decide) (by decide)
              have p7 : vs 7 = _ := hp 7 (by decide) (by decide)
              clear hp hl
              refine opgoal (_) (some 21) rfl rfl fun K hK => ?_
              have hlt' := HLT.out
              refine Runs.mk ?_
              simp only [putAll]
              go_simp
              refine hK _ _ ?_ hS ((fun w => Below.refl _ w) W) _ rfl rfl
              first | rfl | go_simp | simp
            · -- 9: Op.fieldAddr 49 (Operand.tmp 21) 1
              intro l hl vs W hS hR hp
              obtain rfl : l = [(6, 19), (7, 20), (8, 21)] := hl.symm.trans (by kernel_rfl)
              have p8 : vs 8 = _ := hp 8 (by decide) (by decide)
              clear hp hl
              refine opgoal (_) (some 22) rfl rfl fun K hK => ?_
              refine Runs.mk ?_
              simp only [putAll]
              go_simp
              refine hK _ _ ?_ hS ((fun w => Below.refl _ w) W) _ rfl rfl
              first | rfl | go_simp | simp
            · -- 10: Op.load 3 (Operand.tmp 22)
              intro l hl vs W hS hR hp
              obtain rfl : l = [(6, 19), (7, 20), (8, 21), (9, 22)] := hl.symm.trans (by kernel_rfl)
              have p9 : vs 9 = _ := hp 9 (by decide) (by decide)
              clear hp hl
              refine opgoal (_) (some 23) rfl rfl fun K hK => ?_
              obtain ⟨f0, f1, f2, f3⟩ := HSR.out W hS
              refine Runs.mk ?_
              simp only [putAll]
              go_simp
              refine hK _ _ ?_ hS ((fun w => Below.refl _ w) W) _ rfl rfl
              first | rfl | go_simp | simp
            · -- 11: Op.call { callee := Callee.value (Operand.func 68), args := #[Operand.tmp 13, Operand.tmp 18, Operand.tmp 23], argTypes := #[44, 3, 3] }
              intro l hl vs W hS hR hp
              obtain rfl : l = [(0, 13), (1, 14), (2, 15), (3, 16), (4, 17), (5, 18), (6, 19), (7, 20), (8, 21), (9, 22), (10, 23)] := hl.symm.trans (by kernel_rfl)
              have p0 : vs 0 = _ := hp 0 (by decide) (by decide)
              have p5 : vs 5 = _ := hp 5 (by decide) (by decide)
              have p10 : vs 10 = _ := hp 10 (by decide) (by decide)
              clear hp hl
              refine opgoal (_) (some 24) rfl rfl fun K hK => ?_
              refine Runs.mk ?_
              simp only [putAll]
              go_simp
              refine (HRT.out W hS).mono ?_
              rintro e w' ⟨rfl, rfl⟩
              go_simp
              exact hK _ _ rfl hS (Below.refl _ _) _ rfl rfl
            · -- 12: Op.unOp UnOp.not 4 (Operand.tmp 24)
              intro l hl vs W hS hR hp
              obtain rfl : l = [(0, 13), (1, 14), (2, 15), (3, 16), (4, 17), (5, 18), (6, 19), (7, 20), (8, 21), (9, 22), (10, 23), (11, 24)] := hl.symm.trans (by kernel_rfl)
              have p11 : vs 11 = _ := hp 11 (by decide) (by decide)
              clear hp hl
              refine opgoal (_) (some 25) rfl rfl fun K hK => ?_
              refine Runs.mk ?_
              simp only [putAll]
              go_simp
              refine hK _ _ ?_ hS ((fun w => Below.refl _ w) W) _ rfl rfl
              first | rfl | go_simp | simp
            · -- 13: Op.move (Operand.tmp 25)
              intro l hl vs W hS hR hp
              obtain rfl : l = [(0, 13), (1, 14), (2, 15), (3, 16), (4, 17), (5, 18), (6, 19), (7, 20), (8, 21), (9, 22), (10, 23), (11, 24), (12, 25)] := hl.symm.trans (by kernel_rfl)
              have p12 : vs 12 = _ := hp 12 (by decide) (by decide)
              clear hp hl
              refine opgoal (_) (some 26) rfl rfl fun K hK => ?_
              refine Runs.mk ?_
              simp only [putAll]
              go_simp
              refine hK _ _ ?_ hS ((fun w => Below.refl _ w) W) _ rfl rfl
              first | rfl | go_simp | simp
            · -- 14: Op.move (Operand.tmp 0)  [(13, 'false')]
              intro l hl vs W hS hR hp
              obtain rfl : l = [(0, 13), (1, 14), (2, 15), (3, 16), (4, 17), (5, 18), (6, 19), (7, 20), (8, 21), (9, 22), (10, 23), (11, 24), (12, 25), (13, 26)] := hl.symm.trans (by kernel_rfl)
              have p13 : vs 13 = _ := hp 13 (by decide) (by decide)
              clear hp hl
              refine opgoal (_) (some 27) rfl rfl fun K hK => ?_
              refine Runs.mk ?_
              simp only [putAll]
              go_simp
              refine hK _ _ ?_ hS ((fun w => Below.refl _ w) W) _ rfl rfl
              first | rfl | go_simp | simp
            · -- 15: Op.move (Operand.tmp 1)  [(13, 'false')]
              intro l hl vs W hS hR hp
              obtain rfl : l = [(0, 13), (1, 14), (2, 15), (3, 16), (4, 17), (5, 18), (6, 19), (7, 20), (8, 21), (9, 22), (10, 23), (11, 24), (12, 25), (13, 26)] := hl.symm.trans (by kernel_rfl)
              have p13 : vs 13 = _ := hp 13 (by decide) (by decide)
              clear hp hl
              refine opgoal (_) (some 28) rfl rfl fun K hK => ?_
              refine Runs.mk ?_
              simp only [putAll]
              go_simp
              refine hK _ _ ?_ hS ((fun w => Below.refl _ w) W) _ rfl rfl
              first | rfl | go_simp | simp
            · -- 16: Op.move (Operand.tmp 6)  [(13, 'false')]
              intro l hl vs W hS hR hp
              obtain rfl : l = [(0, 13), (1, 14), (2, 15), (3, 16), (4, 17), (5, 18), (6, 19), (7, 20), (8, 21), (9, 22), (10, 23), (11, 24), (12, 25), (13, 26)] := hl.symm.trans (by kernel_rfl)
              have p13 : vs 13 = _ := hp 13 (by decide) (by decide)
              clear hp hl
              refine opgoal (_) (some 29) rfl rfl fun K hK => ?_
              refine Runs.mk ?_
              simp only [putAll]
              go_simp
              refine hK _ _ ?_ hS ((fun w => Below.refl _ w) W) _ rfl rfl
              first | rfl | go_simp | simp
            · -- 17: Op.indexAddr 47 (Operand.tmp 28) (Operand.tmp 29)  [(13, 'false')]
              intro l hl vs W hS hR hp
              obtain rfl : l = [(0, 13), (1, 14), (2, 15), (3, 16), (4, 17), (5, 18), (6, 19), (7, 20), (8, 21), (9, 22), (10, 23), (11, 24), (12, 25), (13, 26), (15, 28), (16, 29)] := hl.symm.trans (by kernel_rfl)
              have p13 : vs 13 = _ := hp 13 (by decide) (by decide)
              have p15 : vs 15 = _ := hp 15 (by decide) (by decide)
              have p16 : vs 16 = _ := hp 16 (by decide) (by decide)
              clear hp hl
              refine opgoal (_) (some 30) rfl rfl fun K hK => ?_
              have hlt' := HLT.out
              refine Runs.mk ?_
              simp only [putAll]
              go_simp
              refine hK _ _ ?_ hS ((fun w => Below.refl _ w) W) _ rfl rfl
              first | rfl | go_simp | simp
            · -- 18: Op.fieldAddr 49 (Operand.tmp 30) 0  [(13, 'false')]
              intro l hl vs W hS hR hp
              obtain rfl : l = [(0, 13), (1, 14), (2, 15), (3, 16), (4, 17), (5, 18), (6, 19), (7, 20), (8, 21), (9, 22), (10, 23), (11, 24), (12, 25), (13, 26), (15, 28), (16, 29), (17, 30)] := hl.symm.trans (by kernel_rfl)
              have p13 : vs 13 = _ := hp 13 (by decide) (by decide)
              have p17 : vs 17 = _ := hp 17 (by decide) (by decide)
              clear hp hl
              refine opgoal (_) (some 31) rfl rfl fun K hK => ?_
              refine Runs.mk ?_
              simp only [putAll]
              go_simp
              refine hK _ _ ?_ hS ((fun w => Below.refl _ w) W) _ rfl rfl
              first | rfl | go_simp | simp
            · -- 19: Op.load 3 (Operand.tmp 31)  [(13, 'false')]
              intro l hl vs W hS hR hp
              obtain rfl : l = [(0, 13), (1, 14), (2, 15), (3, 16), (4, 17), (5, 18), (6, 19), (7, 20), (8, 21), (9, 22), (10, 23), (11, 24), (12, 25), (13, 26), (15, 28), (16, 29), (17, 30), (18, 31)] := hl.symm.trans (by kernel_rfl)
              have p13 : vs 13 = _ := hp 13 (by decide) (by decide)
              have p18 : vs 18 = _ := hp 18 (by decide) (by decide)
              clear hp hl
              refine opgoal (_) (some 32) rfl rfl fun K hK => ?_
              obtain ⟨f0, f1, f2, f3⟩ := HSR.out W hS
              refine Runs.mk ?_
              simp only [putAll]
              go_simp
              refine hK _ _ ?_ hS ((fun w => Below.refl _ w) W) _ rfl rfl
              first | rfl | go_simp | simp
            · -- 20: Op.move (Operand.tmp 1)  [(13, 'false')]
              intro l hl vs W hS hR hp
              obtain rfl : l = [(0, 13), (1, 14), (2, 15), (3, 16), (4, 17), (5, 18), (6, 19), (7, 20), (8, 21), (9, 22), (10, 23), (11, 24), (12, 25), (13, 26)] := hl.symm.trans (by kernel_rfl)
              have p13 : vs 13 = _ := hp 13 (by decide) (by decide)
              clear hp hl
              refine opgoal (_) (some 33) rfl rfl fun K hK => ?_
              refine Runs.mk ?_
              simp only [putAll]
              go_simp
              refine hK _ _ ?_ hS ((fun w => Below.refl _ w) W) _ rfl rfl
              first | rfl | go_simp | simp
            · -- 21: Op.move (Operand.tmp 6)  [(13, 'false')]
              intro l hl vs W hS hR hp
              obtain rfl : l = [(0, 13), (1, 14), (2, 15), (3, 16), (4, 17), (5, 18), (6, 19), (7, 20), (8, 21), (9, 22), (10, 23), (11, 24), (12, 25), (13, 26)] := hl.symm.trans (by kernel_rfl)
              have p13 : vs 13 = _ := hp 13 (by decide) (by decide)
              clear hp hl
              refine opgoal (_) (some 34) rfl rfl fun K hK => ?_
              refine Runs.mk ?_
              simp only [putAll]
              go_simp
              refine hK _ _ ?_ hS ((fun w => Below.refl _ w) W) _ rfl rfl
              first | rfl | go_simp | simp
            · -- 22: Op.indexAddr 47 (Operand.tmp 33) (Operand.tmp 34)  [(13, 'false')]
              intro l hl vs W hS hR hp
              obtain rfl : l = [(0, 13), (1, 14), (2, 15), (3, 16), (4, 17), (5, 18), (6, 19), (7, 20), (8, 21), (9, 22), (10, 23), (11, 24), (12, 25), (13, 26), (20, 33), (21, 34)] := hl.symm.trans (by kernel_rfl)
              have p13 : vs 13 = _ := hp 13 (by decide) (by decide)
              have p20 : vs 20 = _ := hp 20 (by decide) (by decide)
              have p21 : vs 21 = _ := hp 21 (by decide) (by decide)
              clear hp hl
              refine opgoal (_) (some 35) rfl rfl fun K hK => ?_
              have hlt' := HLT.out
              refine Runs.mk ?_
              simp only [putAll]
              go_simp
              refine hK _ _ ?_ hS ((fun w => Below.refl _ w) W) _ rfl rfl
              first | rfl | go_simp | simp
            · -- 23: Op.fieldAddr 49 (Operand.tmp 35) 1  [(13, 'false')]
              intro l hl vs W hS hR hp
              obtain rfl : l = [(0, 13), (1, 14), (2, 15), (3, 16), (4, 17), (5, 18), (6, 19), (7, 20), (8, 21), (9, 22), (10, 23), (11, 24), (12, 25), (13, 26), (20, 33), (21, 34), (22, 35)] := hl.symm.trans (by kernel_rfl)
              have p13 : vs 13 = _ := hp 13 (by decide) (by decide)
              have p22 : vs 22 = _ := hp 22 (by decide) (by decide)
              clear hp hl
              refine opgoal (_) (some 36) rfl rfl fun K hK => ?_
              refine Runs.mk ?_
              simp only [putAll]
              go_simp
              refine hK _ _ ?_ hS ((fun w => Below.refl _ w) W) _ rfl rfl
              first | rfl | go_simp | simp
            · -- 24: Op.load 3 (Operand.tmp 36)  [(13, 'false')]
              intro l hl vs W hS hR hp
              obtain rfl : l = [(0, 13), (1, 14), (2, 15), (3, 16), (4, 17), (5, 18), (6, 19), (7, 20), (8, 21), (9, 22), (10, 23), (11, 24), (12, 25), (13, 26), (20, 33), (21, 34), (22, 35), (23, 36)] := hl.symm.trans (by kernel_rfl)
              have p13 : vs 13 = _ := hp 13 (by decide) (by decide)
              have p23 : vs 23 = _ := hp 23 (by decide) (by decide)
              clear hp hl
              refine opgoal (_) (some 37) rfl rfl fun K hK => ?_
              obtain ⟨f0, f1, f2, f3⟩ := HSR.out W hS
              refine Runs.mk ?_
              simp only [putAll]
              go_simp
              refine hK _ _ ?_ hS ((fun w => Below.refl _ w) W) _ rfl rfl
              first | rfl | go_simp | simp
            · -- 25: Op.call { callee := Callee.value (Operand.func 69), args := #[Operand.tmp 27, Operand.tmp 32, Operand.tmp 37], argTypes := #[44, 3, 3] }  [(13, 'false')]
              intro l hl vs W hS hR hp
              obtain rfl : l = [(0, 13), (1, 14), (2, 15), (3, 16), (4, 17), (5, 18), (6, 19), (7, 20), (8, 21), (9, 22), (10, 23), (11, 24), (12, 25), (13, 26), (14, 27), (15, 28), (16, 29), (17, 30), (18, 31), (19, 32), (20, 33), (21, 34), (22, 35), (23, 36), (24, 37)] := hl.symm.trans (by kernel_rfl)
              have p13 : vs 13 = _ := hp 13 (by decide) (by decide)
              have p14 : vs 14 = _ := hp 14 (by decide) (by decide)
              have p19 : vs 19 = _ := hp 19 (by decide) (by decide)
              have p24 : vs 24 = _ := hp 24 (by decide) (by decide)
              clear hp hl
              refine opgoal (_) (some 38) rfl rfl fun K hK => ?_
              refine Runs.mk ?_
              simp only [putAll]
              go_simp
              refine (HCT.out W hS).mono ?_
              rintro e w' ⟨rfl, hb⟩
              go_simp
              exact hK _ _ rfl (below2 hS hb) hb _ rfl rfl
            · -- 26: Op.pick (Operand.tmp 26) (Operand.const (Value.bool true)) (Operand.tmp 38)
              intro l hl vs W hS hR hp
              obtain rfl : l = [(0, 13), (1, 14), (2, 15), (3, 16), (4, 17), (5, 18), (6, 19), (7, 20), (8, 21), (9, 22), (10, 23), (11, 24), (12, 25), (13, 26), (14, 27), (15, 28), (16, 29), (17, 30), (18, 31), (19, 32), (20, 33), (21, 34), (22, 35), (23, 36), (24, 37), (25, 38)] := hl.symm.trans (by kernel_rfl)
              have p13 : vs 13 = _ := hp 13 (by decide) (by decide)
              have p25 : vs 25 = _ := hp 25 (by decide) (by decide)
              clear hp hl
              refine opgoal (_) (some 39) rfl rfl fun K hK => ?_
              refine Runs.mk ?_
              simp only [putAll]
              go_simp
              refine hK _ _ ?_ hS ((fun w => Below.refl _ w) W) _ rfl rfl
              first | rfl | go_simp | simp
            · -- 27: Op.move (Operand.tmp 39)
              intro l hl vs W hS hR hp
              obtain rfl : l = [(0, 13), (1, 14), (2, 15), (3, 16), (4, 17), (5, 18), (6, 19), (7, 20), (8, 21), (9, 22), (10, 23), (11, 24), (12, 25), (13, 26), (14, 27), (15, 28), (16, 29), (17, 30), (18, 31), (19, 32), (20, 33), (21, 34), (22, 35), (23, 36), (24, 37), (25, 38), (26, 39)] := hl.symm.trans (by kernel_rfl)
              have p26 : vs 26 = _ := hp 26 (by decide) (by decide)
              clear hp hl
              refine opgoal (_) (some 40) rfl rfl fun K hK => ?_
              refine Runs.mk ?_
              simp only [putAll]
              go_simp
              refine hK _ _ ?_ hS ((fun w => Below.refl _ w) W) _ rfl rfl
              first | rfl | go_simp | simp
            · -- 28: Op.move (Operand.tmp 0)  [(27, 'false')]
              intro l hl vs W hS hR hp
              obtain rfl : l = [(0, 13), (1, 14), (2, 15), (3, 16), (4, 17), (5, 18), (6, 19), (7, 20), (8, 21), (9, 22), (10, 23), (11, 24), (12, 25), (13, 26), (14, 27), (15, 28), (16, 29), (17, 30), (18, 31), (19, 32), (20, 33), (21, 34), (22, 35), (23, 36), (24, 37), (25, 38), (26, 39), (27, 40)] := hl.symm.trans (by kernel_rfl)
              have p27 : vs 27 = _ := hp 27 (by decide) (by decide)
              clear hp hl
              refine opgoal (_) (some 41) rfl rfl fun K hK => ?_
              refine Runs.mk ?_
              simp only [putAll]
              go_simp
              refine hK _ _ ?_ hS ((fun w => Below.refl _ w) W) _ rfl rfl
              first | rfl | go_simp | simp
            · -- 29: Op.nilCheck (Operand.tmp 41)  [(27, 'false')]
              intro l hl vs W hS hR hp
              obtain rfl : l = [(0, 13), (1, 14), (2, 15), (3, 16), (4, 17), (5, 18), (6, 19), (7, 20), (8, 21), (9, 22), (10, 23), (11, 24), (12, 25), (13, 26), (14, 27), (15, 28), (16, 29), (17, 30), (18, 31), (19, 32), (20, 33), (21, 34), (22, 35), (23, 36), (24, 37), (25, 38), (26, 39), (27, 40), (28, 41)] := hl.symm.trans (by kernel_rfl)
              have p27 : vs 27 = _ := hp 27 (by decide) (by decide)
              have p28 : vs 28 = _ := hp 28 (by decide) (by decide)
              clear hp hl
              refine opgoal (_) (some 42) rfl rfl fun K hK => ?_
              refine Runs.mk ?_
              simp only [putAll]
              go_simp
              refine hK _ _ ?_ hS ((fun w => Below.refl _ w) W) _ rfl rfl
              first | rfl | go_simp | simp
            · -- 30: Op.fieldAddr 56 (Operand.tmp 42) 1  [(27, 'false')]
              intro l hl vs W hS hR hp
              obtain rfl : l = [(0, 13), (1, 14), (2, 15), (3, 16), (4, 17), (5, 18), (6, 19), (7, 20), (8, 21), (9, 22), (10, 23), (11, 24), (12, 25), (13, 26), (14, 27), (15, 28), (16, 29), (17, 30), (18, 31), (19, 32), (20, 33), (21, 34), (22, 35), (23, 36), (24, 37), (25, 38), (26, 39), (27, 40), (28, 41), (29, 42)] := hl.symm.trans (by kernel_rfl)
              have p27 : vs 27 = _ := hp 27 (by decide) (by decide)
              have p29 : vs 29 = _ := hp 29 (by decide) (by decide)
              clear hp hl
              refine opgoal (_) (some 43) rfl rfl fun K hK => ?_
              refine Runs.mk ?_
              simp only [putAll]
              go_simp
              refine hK _ _ ?_ hS ((fun w => Below.refl _ w) W) _ rfl rfl
              first | rfl | go_simp | simp
            · -- 31: Op.load 47 (Operand.tmp 43)  [(27, 'false')]
              intro l hl vs W hS hR hp
              obtain rfl : l = [(0, 13), (1, 14), (2, 15), (3, 16), (4, 17), (5, 18), (6, 19), (7, 20), (8, 21), (9, 22), (10, 23), (11, 24), (12, 25), (13, 26), (14, 27), (15, 28), (16, 29), (17, 30), (18, 31), (19, 32), (20, 33), (21, 34), (22, 35), (23, 36), (24, 37), (25, 38), (26, 39), (27, 40), (28, 41), (29, 42), (30, 43)] := hl.symm.trans (by kernel_rfl)
              have p27 : vs 27 = _ := hp 27 (by decide) (by decide)
              have p30 : vs 30 = _ := hp 30 (by decide) (by decide)
              clear hp hl
              refine opgoal (_) (some 44) rfl rfl fun K hK => ?_
              refine Runs.mk ?_
              simp only [putAll]
              go_simp
              refine hK _ _ ?_ hS ((fun w => Below.refl _ w) W) _ rfl rfl
              first | rfl | go_simp | simp
            · -- 32: Op.call { callee := Callee.builtin Builtin.len, args := #[Operand.tmp 44], argTypes := #[47] }  [(27, 'false')]
              intro l hl vs W hS hR hp
              obtain rfl : l = [(0, 13), (1, 14), (2, 15), (3, 16), (4, 17), (5, 18), (6, 19), (7, 20), (8, 21), (9, 22), (10, 23), (11, 24), (12, 25), (13, 26), (14, 27), (15, 28), (16, 29), (17, 30), (18, 31), (19, 32), (20, 33), (21, 34), (22, 35), (23, 36), (24, 37), (25, 38), (26, 39), (27, 40), (28, 41), (29, 42), (30, 43), (31, 44)] := hl.symm.trans (by kernel_rfl)
              have p27 : vs 27 = _ := hp 27 (by decide) (by decide)
              have p31 : vs 31 = _ := hp 31 (by decide) (by decide)
              clear hp hl
              refine opgoal (_) (some 45) rfl rfl fun K hK => ?_
              refine Runs.mk ?_
              simp only [putAll]
              go_simp
              refine hK _ _ ?_ hS ((fun w => Below.refl _ w) W) _ rfl rfl
              first | rfl | go_simp | simp
            · -- 33: Op.binOp BinOp.geq 3 (Operand.tmp 45) (Operand.const (Value.int IntKind.i64 256)) 3  [(27, 'false')]
              intro l hl vs W hS hR hp
              obtain rfl : l = [(0, 13), (1, 14), (2, 15), (3, 16), (4, 17), (5, 18), (6, 19), (7, 20), (8, 21), (9, 22), (10, 23), (11, 24), (12, 25), (13, 26), (14, 27), (15, 28), (16, 29), (17, 30), (18, 31), (19, 32), (20, 33), (21, 34), (22, 35), (23, 36), (24, 37), (25, 38), (26, 39), (27, 40), (28, 41), (29, 42), (30, 43), (31, 44), (32, 45)] := hl.symm.trans (by kernel_rfl)
              have p27 : vs 27 = _ := hp 27 (by decide) (by decide)
              have p32 : vs 32 = _ := hp 32 (by decide) (by decide)
              clear hp hl
              refine opgoal (_) (some 46) rfl rfl fun K hK => ?_
              refine Runs.mk ?_
              simp only [putAll]
              go_simp
              refine hK _ _ ?_ hS ((fun w => Below.refl _ w) W) _ rfl rfl
              first | rfl | go_simp | simp
            · -- 34: Op.pick (Operand.tmp 40) (Operand.const (Value.bool true)) (Operand.tmp 46)
              intro l hl vs W hS hR hp
              obtain rfl : l = [(0, 13), (1, 14), (2, 15), (3, 16), (4, 17), (5, 18), (6, 19), (7, 20), (8, 21), (9, 22), (10, 23), (11, 24), (12, 25), (13, 26), (14, 27), (15, 28), (16, 29), (17, 30), (18, 31), (19, 32), (20, 33), (21, 34), (22, 35), (23, 36), (24, 37), (25, 38), (26, 39), (27, 40), (28, 41), (29, 42), (30, 43), (31, 44), (32, 45), (33, 46)] := hl.symm.trans (by kernel_rfl)
              have p27 : vs 27 = _ := hp 27 (by decide) (by decide)
              have p33 : vs 33 = _ := hp 33 (by decide) (by decide)
              clear hp hl
              refine opgoal (_) (some 47) rfl rfl fun K hK => ?_
              refine Runs.mk ?_
              simp only [putAll]
              go_simp
              refine hK _ _ ?_ hS ((fun w => Below.refl _ w) W) _ rfl rfl
              first | rfl | go_simp | simp
          · intro l hl vs W hS hR hp
            obtain rfl : l = [(0, 13), (1, 14), (2, 15), (3, 16), (4, 17), (5, 18), (6, 19), (7, 20), (8, 21), (9, 22), (10, 23), (11, 24), (12, 25), (13, 26), (14, 27), (15, 28), (16, 29), (17, 30), (18, 31), (19, 32), (20, 33), (21, 34), (22, 35), (23, 36), (24, 37), (25, 38), (26, 39), (27, 40), (28, 41), (29, 42), (30, 43), (31, 44), (32, 45), (33, 46), (34, 47)] := hl.symm.trans (by kernel_rfl)
            have p0 : vs 0 = _ := hp 0 (by decide) (by decide)
            have p1 : vs 1 = _ := hp 1 (by decide) (by decide)
            have p2 : vs 2 = _ := hp 2 (by decide) (by decide)
            have p3 : vs 3 = _ := hp 3 (by decide) (by decide)
            have p4 : vs 4 = _ := hp 4 (by decide) (by decide)
            have p5 : vs 5 = _ := hp 5 (by decide) (by decide)
            have p6 : vs 6 = _ := hp 6 (by decide) (by decide)
            have p7 : vs 7 = _ := hp 7 (by decide) (by decide)
            have p8 : vs 8 = _ := hp 8 (by decide) (by decide)
            have p9 : vs 9 = _ := hp 9 (by decide) (by decide)
            have p10 : vs 10 = _ := hp 10 (by decide) (by decide)
            have p11 : vs 11 = _ := hp 11 (by decide) (by decide)
            have p12 : vs 12 = _ := hp 12 (by decide) (by decide)
            have p13 : vs 13 = _ := hp 13 (by decide) (by decide)
            have p14 : vs 14 = _ := hp 14 (by decide) (by decide)
            have p15 : vs 15 = _ := hp 15 (by decide) (by decide)
            have p16 : vs 16 = _ := hp 16 (by decide) (by decide)
            have p17 : vs 17 = _ := hp 17 (by decide) (by decide)
            have p18 : vs 18 = _ := hp 18 (by decide) (by decide)
            have p19 : vs 19 = _ := hp 19 (by decide) (by decide)
            have p20 : vs 20 = _ := hp 20 (by decide) (by decide)
            have p21 : vs 21 = _ := hp 21 (by decide) (by decide)
            have p22 : vs 22 = _ := hp 22 (by decide) (by decide)
            have p23 : vs 23 = _ := hp 23 (by decide) (by decide)
            have p24 : vs 24 = _ := hp 24 (by decide) (by decide)
            have p25 : vs 25 = _ := hp 25 (by decide) (by decide)
            have p26 : vs 26 = _ := hp 26 (by decide) (by decide)
            have p27 : vs 27 = _ := hp 27 (by decide) (by decide)
            have p28 : vs 28 = _ := hp 28 (by decide) (by decide)
            have p29 : vs 29 = _ := hp 29 (by decide) (by decide)
            have p30 : vs 30 = _ := hp 30 (by decide) (by decide)
            have p31 : vs 31 = _ := hp 31 (by decide) (by decide)
            have p32 : vs 32 = _ := hp 32 (by decide) (by decide)
            have p33 : vs 33 = _ := hp 33 (by decide) (by decide)
            have p34 : vs 34 = _ := hp 34 (by decide) (by decide)
            clear hp hl
            simp only [putAll_mk, setAll, List.setIfInBounds_toArray, List.set_cons_succ, List.set_cons_zero, p0, p1, p2, p3, p4, p5, p6, p7, p8, p9, p10, p11, p12, p13, p14, p15, p16, p17, p18, p19, p20, p21, p22, p23, p24, p25, p26, p27, p28, p29, p30, p31, p32, p33, p34]
            have HS := Lib.hid hS
            clear hS hR
            go_wp2
            go_roundw
            case rel => exact ⟨kk + 1, m + 1, Lk, vLk, vCk, by omega, by omega, by go_num, by go_num, HREL.out _ HS.out⟩
            case measure => simp [intOf]; omega
        | false =>
          by_cases hfull : 256 ≤ nL
          · have HFU : Hid (decide ((256 : Int) ≤ (nL : Int)) = true) := Lib.hid (by simp; omega)
            have hkd' : decide (nL < 256) = false := by simp; omega
            rw [hkd'] at hF'
            simp only [Bool.not_false, Bool.and_self, Bool.and_false, Bool.false_eq_true, if_false] at hF'
            have HF := Lib.hid hF'
            have HREL : Hid (∀ W', Below wr.heap.size wr W' → Dd W' d nodes vLk Lk vCk cs ∧ Lk.length ≤ 256 ∧ GK d vL vC vLk vCk w W' ∧ Hid ((sendL nodes f (ps.drop (kk + 1)) Lk).1 = LF ∧ m + 1 + (sendL nodes f (ps.drop (kk + 1)) Lk).2 = cF)) := Lib.hid fun W' hb => ⟨HDD.out.below hb, by rw [HN.out]; exact hl256, HGK.out.below hb, Lib.hid ⟨HF.out.1, by have := HF.out.2; omega⟩⟩
            clear hF' hkd' hfull
            go_wp2_with fail
            refine wp_region_one (fun W' => Below wr.heap.size wr W') (fun u v => Below u.heap.size u v) (fun a i => match i with
                | 0 => (fun v _ => v = .pointer (some ⟨d, 0, none⟩))
                | 1 => (fun v _ => v = .slice (some ⟨ab, ao, none⟩) N c)
                | 2 => (fun v _ => v = .int .i64 (kk : Int))
                | 3 => (fun v _ => v = .pointer (some ⟨ab, ao + kk * 4, none⟩))
                | 4 => (fun v _ => v = .pointer (some ⟨ab, ao + kk * 4, none⟩))
                | 5 => (fun v _ => v = .int .i64 px)
                | 6 => (fun v _ => v = .slice (some ⟨ab, ao, none⟩) N c)
                | 7 => (fun v _ => v = .int .i64 (kk : Int))
                | 8 => (fun v _ => v = .pointer (some ⟨ab, ao + kk * 4, none⟩))
                | 9 => (fun v _ => v = .pointer (some ⟨ab, ao + kk * 4 + 1, none⟩))
                | 10 => (fun v _ => v = .int .i64 py)
                | 11 => (fun v _ => v = .bool true)
                | 12 => (fun v _ => v = .bool false)
                | 13 => (fun v _ => v = .bool false)
                | 14 => (fun v _ => v = .pointer (some ⟨d, 0, none⟩))
                | 15 => (fun v _ => v = .slice (some ⟨ab, ao, none⟩) N c)
                | 16 => (fun v _ => v = .int .i64 (kk : Int))
                | 17 => (fun v _ => v = .pointer (some ⟨ab, ao + kk * 4, none⟩))
                | 18 => (fun v _ => v = .pointer (some ⟨ab, ao + kk * 4, none⟩))
                | 19 => (fun v _ => v = .int .i64 px)
                | 20 => (fun v _ => v = .slice (some ⟨ab, ao, none⟩) N c)
                | 21 => (fun v _ => v = .int .i64 (kk : Int))
                | 22 => (fun v _ => v = .pointer (some ⟨ab, ao + kk * 4, none⟩))
                | 23 => (fun v _ => v = .pointer (some ⟨ab, ao + kk * 4 + 1, none⟩))
                | 24 => (fun v _ => v = .int .i64 py)
                | 25 => (fun v _ => v = .bool false)
                | 26 => (fun v _ => v = .bool false)
                | 27 => (fun v _ => v = .bool false)
                | 28 => (fun v _ => v = .pointer (some ⟨d, 0, none⟩))
                | 29 => (fun v _ => v = .pointer (some ⟨d, 0, none⟩))
                | 30 => (fun v _ => v = .pointer (some ⟨d, 1, none⟩))
                | 31 => (fun v _ => v = .slice AL nL cL)
                | 32 => (fun v _ => v = .int .i64 (nL : Int))
                | 33 => (fun v _ => v = .bool true)
                | 34 => (fun v _ => v = .bool true)
                | _ => (fun _ _ => True)) #[0, 0, 0, 6, 14, 30, 0, 0, 192, 448, 960, 2047, 4095, 8191, 16383, 16383, 16383, 114687, 245759, 507903, 16383, 16383, 3162111, 7356415, 15745023, 33554431, 67108863, 134217727, 268435455, 536870911, 1073741823, 2147483647, 4294967295, 8589934591, 17179869183] #[0, 0, 0, 6, 8, 16, 0, 0, 192, 256, 512, 1057, 2048, 4096, 8192, 8192, 8192, 106496, 139264, 270336, 8192, 8192, 3153920, 4202496, 8396800, 17326080, 33562624, 67108864, 134217728, 402653184, 671088640, 1207959552, 2281701376, 4429185024, 8724152320] 34359738367 (by kernel_rfl) 35 rfl (fun m hm => by subst hm; kernel_rfl) (by kernel_rfl) (fun w => Below.refl _ w) (fun u v w h1 h2 => below2 h1 h2) ?_ (below_drewN 1 wr) ?_ ?_
            · intro i hi
              rcases (by omega : i = 0 ∨ i = 1 ∨ i = 2 ∨ i = 3 ∨ i = 4 ∨ i = 5 ∨ i = 6 ∨ i = 7 ∨ i = 8 ∨ i = 9 ∨ i = 10 ∨ i = 11 ∨ i = 12 ∨ i = 13 ∨ i = 14 ∨ i = 15 ∨ i = 16 ∨ i = 17 ∨ i = 18 ∨ i = 19 ∨ i = 20 ∨ i = 21 ∨ i = 22 ∨ i = 23 ∨ i = 24 ∨ i = 25 ∨ i = 26 ∨ i = 27 ∨ i = 28 ∨ i = 29 ∨ i = 30 ∨ i = 31 ∨ i = 32 ∨ i = 33 ∨ i = 34) with rfl | rfl | rfl | rfl | rfl | rfl | rfl | rfl | rfl | rfl | rfl | rfl | rfl | rfl | rfl | rfl | rfl | rfl | rfl | rfl | rfl | rfl | rfl | rfl | rfl | rfl | rfl | rfl | rfl | rfl | rfl | rfl | rfl | rfl | rfl
              · exact fun v w w' h hr => by exact h
              · exact fun v w w' h hr => by exact h
              · exact fun v w w' h hr => by exact h
              · exact fun v w w' h hr => by exact h
              · exact fun v w w' h hr => by exact h
              · exact fun v w w' h hr => by exact h
              · exact fun v w w' h hr => by exact h
              · exact fun v w w' h hr => by exact h
              · exact fun v w w' h hr => by exact h
              · exact fun v w w' h hr => by exact h
              · exact fun v w w' h hr => by exact h
              · exact fun v w w' h hr => by exact h
              · exact fun v w w' h hr => by exact h
              · exact fun v w w' h hr => by exact h
              · exact fun v w w' h hr => by exact h
              · exact fun v w w' h hr => by exact h
              · exact fun v w w' h hr => by exact h
              · exact fun v w w' h hr => by exact h
              · exact fun v w w' h hr => by exact h
              · exact fun v w w' h hr => by exact h
              · exact fun v w w' h hr => by exact h
              · exact fun v w w' h hr => by exact h
              · exact fun v w w' h hr => by exact h
              · exact fun v w w' h hr => by exact h
              · exact fun v w w' h hr => by exact h
              · exact fun v w w' h hr => by exact h
              · exact fun v w w' h hr => by exact h
              · exact fun v w w' h hr => by exact h
              · exact fun v w w' h hr => by exact h
              · exact fun v w w' h hr => by exact h
              · exact fun v w w' h hr => by exact h
              · exact fun v w w' h hr => by exact h
              · exact fun v w w' h hr => by exact h
              · exact fun v w w' h hr => by exact h
              · exact fun v w w' h hr => by exact h
            · intro i hi
              rcases (by omega : i = 0 ∨ i = 1 ∨ i = 2 ∨ i = 3 ∨ i = 4 ∨ i = 5 ∨ i = 6 ∨ i = 7 ∨ i = 8 ∨ i = 9 ∨ i = 10 ∨ i = 11 ∨ i = 12 ∨ i = 13 ∨ i = 14 ∨ i = 15 ∨ i = 16 ∨ i = 17 ∨ i = 18 ∨ i = 19 ∨ i = 20 ∨ i = 21 ∨ i = 22 ∨ i = 23 ∨ i = 24 ∨ i = 25 ∨ i = 26 ∨ i = 27 ∨ i = 28 ∨ i = 29 ∨ i = 30 ∨ i = 31 ∨ i = 32 ∨ i = 33 ∨ i = 34) with rfl | rfl | rfl | rfl | rfl | rfl | rfl | rfl | rfl | rfl | rfl | rfl | rfl | rfl | rfl | rfl | rfl | rfl | rfl | rfl | rfl | rfl | rfl | rfl | rfl | rfl | rfl | rfl | rfl | rfl | rfl | rfl | rfl | rfl | rfl
              · -- 0: Op.move (Operand.tmp 0)
                intro l hl vs W hS hR hp
                obtain rfl : l = [] := hl.symm.trans (by kernel_rfl)
                clear hp hl
                refine opgoal (_) (some 13) rfl rfl fun K hK => ?_
                refine Runs.mk ?_
                simp only [putAll]
                go_simp
                refine hK _ _ ?_ hS ((fun w => Below.refl _ w) W) _ rfl rfl
                first | rfl | go_simp | simp
              · -- 1: Op.move (Operand.tmp 1)
                intro l hl vs W hS hR hp
                obtain rfl : l = [] := hl.symm.trans (by kernel_rfl)
                clear hp hl
                refine opgoal (_) (some 14) rfl rfl fun K hK => ?_
                refine Runs.mk ?_
                simp only [putAll]
                go_simp
                refine hK _ _ ?_ hS ((fun w => Below.refl _ w) W) _ rfl rfl
                first | rfl | go_simp | simp
              · -- 2: Op.move (Operand.tmp 6)
                intro l hl vs W hS hR hp
                obtain rfl : l = [] := hl.symm.trans (by kernel_rfl)
                clear hp hl
                refine opgoal (_) (some 15) rfl rfl fun K hK => ?_
                refine Runs.mk ?_
                simp only [putAll]
                go_simp
                refine hK _ _ ?_ hS ((fun w => Below.refl _ w) W) _ rfl rfl
                first | rfl | go_simp | simp
              · -- 3: Op.indexAddr 47 (Operand.tmp 14) (Operand.tmp 15)
                intro l hl vs W hS hR hp
                obtain rfl : l = [(1, 14), (2, 15)] := hl.symm.trans (by kernel_rfl)
                have p1 : vs 1 = _ := hp 1 (by decide) (by decide)
                have p2 : vs 2 = _ := hp 2 (by decide) (by decide)
                clear hp hl
                refine opgoal (_) (some 16) rfl rfl fun K hK => ?_
                have hlt' := HLT.out
                refine Runs.mk ?_
                simp only [putAll]
                go_simp
                refine hK _ _ ?_ hS ((fun w => Below.refl _ w) W) _ rfl rfl
                first | rfl | go_simp | simp
              · -- 4: Op.fieldAddr 49 (Operand.tmp 16) 0
                intro l hl vs W hS hR hp
                obtain rfl : l = [(1, 14), (2, 15), (3, 16)] := hl.symm.trans (by kernel_rfl)
                have p3 : vs 3 = _ := hp 3 (by decide) (by decide)
                clear hp hl
                refine opgoal (_) (some 17) rfl rfl fun K hK => ?_
                refine Runs.mk ?_
                simp only [putAll]
                go_simp
                refine hK _ _ ?_ hS ((fun w => Below.refl _ w) W) _ rfl rfl
                first | rfl | go_simp | simp
              · -- 5: Op.load 3 (Operand.tmp 17)
                intro l hl vs W hS hR hp
                obtain rfl : l = [(1, 14), (2, 15), (3, 16), (4, 17)] := hl.symm.trans (by kernel_rfl)
                have p4 : vs 4 = _ := hp 4 (by decide) (by decide)
                clear hp hl
                refine opgoal (_) (some 18) rfl rfl fun K hK => ?_
                obtain ⟨f0, f1, f2, f3⟩ := HSR.out W hS
                refine Runs.mk ?_
                simp only [putAll]
                go_simp
                refine hK _ _ ?_ hS ((fun w => Below.refl _ w) W) _ rfl rfl
                first | rfl | go_simp | simp
              · -- 6: Op.move (Operand.tmp 1)
                intro l hl vs W hS hR hp
                obtain rfl : l = [] := hl.symm.trans (by kernel_rfl)
                clear hp hl
                refine opgoal (_) (some 19) rfl rfl fun K hK => ?_
                refine Runs.mk ?_
                simp only [putAll]
                go_simp
                refine hK _ _ ?_ hS ((fun w => Below.refl _ w) W) _ rfl rfl
                first | rfl | go_simp | simp
              · -- 7: Op.move (Operand.tmp 6)
                intro l hl vs W hS hR hp
                obtain rfl : l = [] := hl.symm.trans (by kernel_rfl)
                clear hp hl
                refine opgoal (_) (some 20) rfl rfl fun K hK => ?_
                refine Runs.mk ?_
                simp only [putAll]
                go_simp
                refine hK _ _ ?_ hS ((fun w => Below.refl _ w) W) _ rfl rfl
                first | rfl | go_simp | simp
              · -- 8: Op.indexAddr 47 (Operand.tmp 19) (Operand.tmp 20)
                intro l hl vs W hS hR hp
                obtain rfl : l = [(6, 19), (7, 20)] := hl.symm.trans (by kernel_rfl)
                have p6 : vs 6 = _ := hp 6 (by decide) (by decide)
                have p7 : vs 7 = _ := hp 7 (by decide) (by decide)
                clear hp hl
                refine opgoal (_) (some 21) rfl rfl fun K hK => ?_
                have hlt' := HLT.out
                refine Runs.mk ?_
                simp only [putAll]
                go_simp
                refine hK _ _ ?_ hS ((fun w => Below.refl _ w) W) _ rfl rfl
                first | rfl | go_simp | simp
              · -- 9: Op.fieldAddr 49 (Operand.tmp 21) 1
                intro l hl vs W hS hR hp
                obtain rfl : l = [(6, 19), (7, 20), (8, 21)] := hl.symm.trans (by kernel_rfl)
                have p8 : vs 8 = _ := hp 8 (by decide) (by decide)
                clear hp hl
                refine opgoal (_) (some 22) rfl rfl fun K hK => ?_
                refine Runs.mk ?_
                simp only [putAll]
                go_simp
                refine hK _ _ ?_ hS ((fun w => Below.refl _ w) W) _ rfl rfl
                first | rfl | go_simp | simp
              · -- 10: Op.load 3 (Operand.tmp 22)
                intro l hl vs W hS hR hp
                obtain rfl : l = [(6, 19), (7, 20), (8, 21), (9, 22)] := hl.symm.trans (by kernel_rfl)
                have p9 : vs 9 = _ := hp 9 (by decide) (by decide)
                clear hp hl
                refine opgoal (_) (some 23) rfl rfl fun K hK => ?_
                obtain ⟨f0, f1, f2, f3⟩ := HSR.out W hS
                refine Runs.mk ?_
                simp only [putAll]
                go_simp
                refine hK _ _ ?_ hS ((fun w => Below.refl _ w) W) _ rfl rfl
                first | rfl | go_simp | simp
              · -- 11: Op.call { callee := Callee.value (Operand.func 68), args := #[Operand.tmp 13, Operand.tmp 18, Operand.tmp 23], argTypes := #[44, 3, 3] }
                intro l hl vs W hS hR hp
                obtain rfl : l = [(0, 13), (1, 14), (2, 15), (3, 16), (4, 17), (5, 18), (6, 19), (7, 20), (8, 21), (9, 22), (10, 23)] := hl.symm.trans (by kernel_rfl)
                have p0 : vs 0 = _ := hp 0 (by decide) (by decide)
                have p5 : vs 5 = _ := hp 5 (by decide) (by decide)
                have p10 : vs 10 = _ := hp 10 (by decide) (by decide)
                clear hp hl
                refine opgoal (_) (some 24) rfl rfl fun K hK => ?_
                refine Runs.mk ?_
                simp only [putAll]
                go_simp
                refine (HRT.out W hS).mono ?_
                rintro e w' ⟨rfl, rfl⟩
                go_simp
                exact hK _ _ rfl hS (Below.refl _ _) _ rfl rfl
              · -- 12: Op.unOp UnOp.not 4 (Operand.tmp 24)
                intro l hl vs W hS hR hp
                obtain rfl : l = [(0, 13), (1, 14), (2, 15), (3, 16), (4, 17), (5, 18), (6, 19), (7, 20), (8, 21), (9, 22), (10, 23), (11, 24)] := hl.symm.trans (by kernel_rfl)
                have p11 : vs 11 = _ := hp 11 (by decide) (by decide)
                clear hp hl
                refine opgoal (_) (some 25) rfl rfl fun K hK => ?_
                refine Runs.mk ?_
                simp only [putAll]
                go_simp
                refine hK _ _ ?_ hS ((fun w => Below.refl _ w) W) _ rfl rfl
                first | rfl | go_simp | simp
              · -- 13: Op.move (Operand.tmp 25)
                intro l hl vs W hS hR hp
                obtain rfl : l = [(0, 13), (1, 14), (2, 15), (3, 16), (4, 17), (5, 18), (6, 19), (7, 20), (8, 21), (9, 22), (10, 23), (11, 24), (12, 25)] := hl.symm.trans (by kernel_rfl)
                have p12 : vs 12 = _ := hp 12 (by decide) (by decide)
                clear hp hl
                refine opgoal (_) (some 26) rfl rfl fun K hK => ?_
                refine Runs.mk ?_
                simp only [putAll]
                go_simp
                refine hK _ _ ?_ hS ((fun w => Below.refl _ w) W) _ rfl rfl
                first | rfl | go_simp | simp
              · -- 14: Op.move (Operand.tmp 0)  [(13, 'false')]
                intro l hl vs W hS hR hp
                obtain rfl : l = [(0, 13), (1, 14), (2, 15), (3, 16), (4, 17), (5, 18), (6, 19), (7, 20), (8, 21), (9, 22), (10, 23), (11, 24), (12, 25), (13, 26)] := hl.symm.trans (by kernel_rfl)
                have p13 : vs 13 = _ := hp 13 (by decide) (by decide)
                clear hp hl
                refine opgoal (_) (some 27) rfl rfl fun K hK => ?_
                refine Runs.mk ?_
                simp only [putAll]
                go_simp
                refine hK _ _ ?_ hS ((fun w => Below.refl _ w) W) _ rfl rfl
                first | rfl | go_simp | simp
              · -- 15: Op.move (Operand.tmp 1)  [(13, 'false')]
                intro l hl vs W hS hR hp
                obtain rfl : l = [(0, 13), (1, 14), (2, 15), (3, 16), (4, 17), (5, 18), (6, 19), (7, 20), (8, 21), (9, 22), (10, 23), (11, 24), (12, 25), (13, 26)] := hl.symm.trans (by kernel_rfl)
                have p13 : vs 13 = _ := hp 13 (by decide) (by decide)
                clear hp hl
                refine opgoal (_) (some 28) rfl rfl fun K hK => ?_
                refine Runs.mk ?_
                simp only [putAll]
                go_simp
                refine hK _ _ ?_ hS ((fun w => Below.refl _ w) W) _ rfl rfl
                first | rfl | go_simp | simp
              · -- 16: Op.move (Operand.tmp 6)  [(13, 'false')]
                intro l hl vs W hS hR hp
                obtain rfl : l = [(0, 13), (1, 14), (2, 15), (3, 16), (4, 17), (5, 18), (6, 19), (7, 20), (8, 21), (9, 22), (10, 23), (11, 24), (12, 25), (13, 26)] := hl.symm.trans (by kernel_rfl)
                have p13 : vs 13 = _ := hp 13 (by decide) (by decide)
                clear hp hl
                refine opgoal (_) (some 29) rfl rfl fun K hK => ?_
                refine Runs.mk ?_
                simp only [putAll]
                go_simp
                refine hK _ _ ?_ hS ((fun w => Below.refl _ w) W) _ rfl rfl
                first | rfl | go_simp | simp
              · -- 17: Op.indexAddr 47 (Operand.tmp 28) (Operand.tmp 29)  [(13, 'false')]
                intro l hl vs W hS hR hp
                obtain rfl : l = [(0, 13), (1, 14), (2, 15), (3, 16), (4, 17), (5, 18), (6, 19), (7, 20), (8, 21), (9, 22), (10, 23), (11, 24), (12, 25), (13, 26), (15, 28), (16, 29)] := hl.symm.trans (by kernel_rfl)
                have p13 : vs 13 = _ := hp 13 (by decide) (by decide)
                have p15 : vs 15 = _ := hp 15 (by decide) (by decide)
                have p16 : vs 16 = _ := hp 16 (by decide) (by decide)
                clear hp hl
                refine opgoal (_) (some 30) rfl rfl fun K hK => ?_
                have hlt' := HLT.out
                refine Runs.mk ?_
                simp only [putAll]
                go_simp
                refine hK _ _ ?_ hS ((fun w => Below.refl _ w) W) _ rfl rfl
                first | rfl | go_simp | simp
              · -- 18: Op.fieldAddr 49 (Operand.tmp 30) 0  [(13, 'false')]
                intro l hl vs W hS hR hp
                obtain rfl : l = [(0, 13), (1, 14), (2, 15), (3, 16), (4, 17), (5, 18), (6, 19), (7, 20), (8, 21), (9, 22), (10, 23), (11, 24), (12, 25), (13, 26), (15, 28), (16, 29), (17, 30)] := hl.symm.trans (by kernel_rfl)
                have p13 : vs 13 = _ := hp 13 (by decide) (by decide)
                have p17 : vs 17 = _ := hp 17 (by decide) (by decide)
                clear hp hl
                refine opgoal (_) (some 31) rfl rfl fun K hK => ?_
                refine Runs.mk ?_
                simp only [putAll]
                go_simp
                refine hK _ _ ?_ hS ((fun w => Below.refl _ w) W) _ rfl rfl
                first | rfl | go_simp | simp
              · -- 19: Op.load 3 (Operand.tmp 31)  [(13, 'false')]
                intro l hl vs W hS hR hp
                obtain rfl : l = [(0, 13), (1, 14), (2, 15), (3, 16), (4, 17), (5, 18), (6, 19), (7, 20), (8, 21), (9, 22), (10, 23), (11, 24), (12, 25), (13, 26), (15, 28), (16, 29), (17, 30), (18, 31)] := hl.symm.trans (by kernel_rfl)
                have p13 : vs 13 = _ := hp 13 (by decide) (by decide)
                have p18 : vs 18 = _ := hp 18 (by decide) (by decide)
                clear hp hl
                refine opgoal (_) (some 32) rfl rfl fun K hK => ?_
                obtain ⟨f0, f1, f2, f3⟩ := HSR.out W hS
                refine Runs.mk ?_
                simp only [putAll]
                go_simp
                refine hK _ _ ?_ hS ((fun w => Below.refl _ w) W) _ rfl rfl
                first | rfl | go_simp | simp
              · -- 20: Op.move (Operand.tmp 1)  [(13, 'false')]
                intro l hl vs W hS hR hp
                obtain rfl : l = [(0, 13), (1, 14), (2, 15), (3, 16), (4, 17), (5, 18), (6, 19), (7, 20), (8, 21), (9, 22), (10, 23), (11, 24), (12, 25), (13, 26)] := hl.symm.trans (by kernel_rfl)
                have p13 : vs 13 = _ := hp 13 (by decide) (by decide)
                clear hp hl
                refine opgoal (_) (some 33) rfl rfl fun K hK => ?_
                refine Runs.mk ?_
                simp only [putAll]
                go_simp
                refine hK _ _ ?_ hS ((fun w => Below.refl _ w) W) _ rfl rfl
                first | rfl | go_simp | simp
              · -- 21: Op.move (Operand.tmp 6)  [(13, 'false')]
                intro l hl vs W hS hR hp
                obtain rfl : l = [(0, 13), (1, 14), (2, 15), (3, 16), (4, 17), (5, 18), (6, 19), (7, 20), (8, 21), (9, 22), (10, 23), (11, 24), (12, 25), (13, 26)] := hl.symm.trans (by kernel_rfl)
                have p13 : vs 13 = _ := hp 13 (by decide) (by decide)
                clear hp hl
                refine opgoal (_) (some 34) rfl rfl fun K hK => ?_
                refine Runs.mk ?_
                simp only [putAll]
                go_simp
                refine hK _ _ ?_ hS ((fun w => Below.refl _ w) W) _ rfl rfl
                first | rfl | go_simp | simp
              · -- 22: Op.indexAddr 47 (Operand.tmp 33) (Operand.tmp 34)  [(13, 'false')]
                intro l hl vs W hS hR hp
                obtain rfl : l = [(0, 13), (1, 14), (2, 15), (3, 16), (4, 17), (5, 18), (6, 19), (7, 20), (8, 21), (9, 22), (10, 23), (11, 24), (12, 25), (13, 26), (20, 33), (21, 34)] := hl.symm.trans (by kernel_rfl)
                have p13 : vs 13 = _ := hp 13 (by decide) (by decide)
                have p20 : vs 20 = _ := hp 20 (by decide) (by decide)
                have p21 : vs 21 = _ := hp 21 (by decide) (by decide)
                clear hp hl
                refine opgoal (_) (some 35) rfl rfl fun K hK => ?_
                have hlt' := HLT.out
                refine Runs.mk ?_
                simp only [putAll]
                go_simp
                refine hK _ _ ?_ hS ((fun w => Below.refl _ w) W) _ rfl rfl
                first | rfl | go_simp | simp
              · -- 23: Op.fieldAddr 49 (Operand.tmp 35) 1  [(13, 'false')]
                intro l hl vs W hS hR hp
                obtain rfl : l = [(0, 13), (1, 14), (2, 15), (3, 16), (4, 17), (5, 18), (6, 19), (7, 20), (8, 21), (9, 22), (10, 23), (11, 24), (12, 25), (13, 26), (20, 33), (21, 34), (22, 35)] := hl.symm.trans (by kernel_rfl)
                have p13 : vs 13 = _ := hp 13 (by decide) (by decide)
                have p22 : vs 22 = _ := hp 22 (by decide) (by decide)
                clear hp hl
                refine opgoal (_) (some 36) rfl rfl fun K hK => ?_
                refine Runs.mk ?_
                simp only [putAll]
                go_simp
                refine hK _ _ ?_ hS ((fun w => Below.refl _ w) W) _ rfl rfl
                first | rfl | go_simp | simp
              · -- 24: Op.load 3 (Operand.tmp 36)  [(13, 'false')]
                intro l hl vs W hS hR hp
                obtain rfl : l = [(0, 13), (1, 14), (2, 15), (3, 16), (4, 17), (5, 18), (6, 19), (7, 20), (8, 21), (9, 22), (10, 23), (11, 24), (12, 25), (13, 26), (20, 33), (21, 34), (22, 35), (23, 36)] := hl.symm.trans (by kernel_rfl)
                have p13 : vs 13 = _ := hp 13 (by decide) (by decide)
                have p23 : vs 23 = _ := hp 23 (by decide) (by decide)
                clear hp hl
                refine opgoal (_) (some 37) rfl rfl fun K hK => ?_
                obtain ⟨f0, f1, f2, f3⟩ := HSR.out W hS
                refine Runs.mk ?_
                simp only [putAll]
                go_simp
                refine hK _ _ ?_ hS ((fun w => Below.refl _ w) W) _ rfl rfl
                first | rfl | go_simp | simp
              · -- 25: Op.call { callee := Callee.value (Operand.func 69), args := #[Operand.tmp 27, Operand.tmp 32, Operand.tmp 37], argTypes := #[44, 3, 3] }  [(13, 'false')]
                intro l hl vs W hS hR hp
                obtain rfl : l = [(0, 13), (1, 14), (2, 15), (3, 16), (4, 17), (5, 18), (6, 19), (7, 20), (8, 21), (9, 22), (10, 23), (11, 24), (12, 25), (13, 26), (14, 27), (15, 28), (16, 29), (17, 30), (18, 31), (19, 32), (20, 33), (21, 34), (22, 35), (23, 36), (24, 37)] := hl.symm.trans (by kernel_rfl)
                have p13 : vs 13 = _ := hp 13 (by decide) (by decide)
                have p14 : vs 14 = _ := hp 14 (by decide) (by decide)
                have p19 : vs 19 = _ := hp 19 (by decide) (by decide)
                have p24 : vs 24 = _ := hp 24 (by decide) (by decide)
                clear hp hl
                refine opgoal (_) (some 38) rfl rfl fun K hK => ?_
                refine Runs.mk ?_
                simp only [putAll]
                go_simp
                refine (HCT.out W hS).mono ?_
                rintro e w' ⟨rfl, hb⟩
                go_simp
                exact hK _ _ rfl (below2 hS hb) hb _ rfl rfl
              · -- 26: Op.pick (Operand.tmp 26) (Operand.const (Value.bool true)) (Operand.tmp 38)
                intro l hl vs W hS hR hp
                obtain rfl : l = [(0, 13), (1, 14), (2, 15), (3, 16), (4, 17), (5, 18), (6, 19), (7, 20), (8, 21), (9, 22), (10, 23), (11, 24), (12, 25), (13, 26), (14, 27), (15, 28), (16, 29), (17, 30), (18, 31), (19, 32), (20, 33), (21, 34), (22, 35), (23, 36), (24, 37), (25, 38)] := hl.symm.trans (by kernel_rfl)
                have p13 : vs 13 = _ := hp 13 (by decide) (by decide)
                have p25 : vs 25 = _ := hp 25 (by decide) (by decide)
                clear hp hl
                refine opgoal (_) (some 39) rfl rfl fun K hK => ?_
                refine Runs.mk ?_
                simp only [putAll]
                go_simp
                refine hK _ _ ?_ hS ((fun w => Below.refl _ w) W) _ rfl rfl
                first | rfl | go_simp | simp
              · -- 27: Op.move (Operand.tmp 39)
                intro l hl vs W hS hR hp
                obtain rfl : l = [(0, 13), (1, 14), (2, 15), (3, 16), (4, 17), (5, 18), (6, 19), (7, 20), (8, 21), (9, 22), (10, 23), (11, 24), (12, 25), (13, 26), (14, 27), (15, 28), (16, 29), (17, 30), (18, 31), (19, 32), (20, 33), (21, 34), (22, 35), (23, 36), (24, 37), (25, 38), (26, 39)] := hl.symm.trans (by kernel_rfl)
                have p26 : vs 26 = _ := hp 26 (by decide) (by decide)
                clear hp hl
                refine opgoal (_) (some 40) rfl rfl fun K hK => ?_
                refine Runs.mk ?_
                simp only [putAll]
                go_simp
                refine hK _ _ ?_ hS ((fun w => Below.refl _ w) W) _ rfl rfl
                first | rfl | go_simp | simp
              · -- 28: Op.move (Operand.tmp 0)  [(27, 'false')]
                intro l hl vs W hS hR hp
                obtain rfl : l = [(0, 13), (1, 14), (2, 15), (3, 16), (4, 17), (5, 18), (6, 19), (7, 20), (8, 21), (9, 22), (10, 23), (11, 24), (12, 25), (13, 26), (14, 27), (15, 28), (16, 29), (17, 30), (18, 31), (19, 32), (20, 33), (21, 34), (22, 35), (23, 36), (24, 37), (25, 38), (26, 39), (27, 40)] := hl.symm.trans (by kernel_rfl)
                have p27 : vs 27 = _ := hp 27 (by decide) (by decide)
                clear hp hl
                refine opgoal (_) (some 41) rfl rfl fun K hK => ?_
                refine Runs.mk ?_
                simp only [putAll]
                go_simp
                refine hK _ _ ?_ hS ((fun w => Below.refl _ w) W) _ rfl rfl
                first | rfl | go_simp | simp
              · -- 29: Op.nilCheck (Operand.tmp 41)  [(27, 'false')]
                intro l hl vs W hS hR hp
                obtain rfl : l = [(0, 13), (1, 14), (2, 15), (3, 16), (4, 17), (5, 18), (6, 19), (7, 20), (8, 21), (9, 22), (10, 23), (11, 24), (12, 25), (13, 26), (14, 27), (15, 28), (16, 29), (17, 30), (18, 31), (19, 32), (20, 33), (21, 34), (22, 35), (23, 36), (24, 37), (25, 38), (26, 39), (27, 40), (28, 41)] := hl.symm.trans (by kernel_rfl)
                have p27 : vs 27 = _ := hp 27 (by decide) (by decide)
                have p28 : vs 28 = _ := hp 28 (by decide) (by decide)
                clear hp hl
                refine opgoal (_) (some 42) rfl rfl fun K hK => ?_
                refine Runs.mk ?_
                simp only [putAll]
                go_simp
                refine hK _ _ ?_ hS ((fun w => Below.refl _ w) W) _ rfl rfl
                first | rfl | go_simp | simp
              · -- 30: Op.fieldAddr 56 (Operand.tmp 42) 1  [(27, 'false')]
                intro l hl vs W hS hR hp
                obtain rfl : l = [(0, 13), (1, 14), (2, 15), (3, 16), (4, 17), (5, 18), (6, 19), (7, 20), (8, 21), (9, 22), (10, 23), (11, 24), (12, 25), (13, 26), (14, 27), (15, 28), (16, 29), (17, 30), (18, 31), (19, 32), (20, 33), (21, 34), (22, 35), (23, 36), (24, 37), (25, 38), (26, 39), (27, 40), (28, 41), (29, 42)] := hl.symm.trans (by kernel_rfl)
                have p27 : vs 27 = _ := hp 27 (by decide) (by decide)
                have p29 : vs 29 = _ := hp 29 (by decide) (by decide)
                clear hp hl
                refine opgoal (_) (some 43) rfl rfl fun K hK => ?_
                refine Runs.mk ?_
                simp only [putAll]
                go_simp
                refine hK _ _ ?_ hS ((fun w => Below.refl _ w) W) _ rfl rfl
                first | rfl | go_simp | simp
              · -- 31: Op.load 47 (Operand.tmp 43)  [(27, 'false')]
                intro l hl vs W hS hR hp
                obtain rfl : l = [(0, 13), (1, 14), (2, 15), (3, 16), (4, 17), (5, 18), (6, 19), (7, 20), (8, 21), (9, 22), (10, 23), (11, 24), (12, 25), (13, 26), (14, 27), (15, 28), (16, 29), (17, 30), (18, 31), (19, 32), (20, 33), (21, 34), (22, 35), (23, 36), (24, 37), (25, 38), (26, 39), (27, 40), (28, 41), (29, 42), (30, 43)] := hl.symm.trans (by kernel_rfl)
                have p27 : vs 27 = _ := hp 27 (by decide) (by decide)
                have p30 : vs 30 = _ := hp 30 (by decide) (by decide)
                clear hp hl
                refine opgoal (_) (some 44) rfl rfl fun K hK => ?_
                have hc2 := cell_below hS HCL.out
                refine Runs.mk ?_
                simp only [putAll]
                go_simp
                refine hK _ _ ?_ hS ((fun w => Below.refl _ w) W) _ rfl rfl
                first | rfl | go_simp | simp
              · -- 32: Op.call { callee := Callee.builtin Builtin.len, args := #[Operand.tmp 44], argTypes := #[47] }  [(27, 'false')]
                intro l hl vs W hS hR hp
                obtain rfl : l = [(0, 13), (1, 14), (2, 15), (3, 16), (4, 17), (5, 18), (6, 19), (7, 20), (8, 21), (9, 22), (10, 23), (11, 24), (12, 25), (13, 26), (14, 27), (15, 28), (16, 29), (17, 30), (18, 31), (19, 32), (20, 33), (21, 34), (22, 35), (23, 36), (24, 37), (25, 38), (26, 39), (27, 40), (28, 41), (29, 42), (30, 43), (31, 44)] := hl.symm.trans (by kernel_rfl)
                have p27 : vs 27 = _ := hp 27 (by decide) (by decide)
                have p31 : vs 31 = _ := hp 31 (by decide) (by decide)
                clear hp hl
                refine opgoal (_) (some 45) rfl rfl fun K hK => ?_
                refine Runs.mk ?_
                simp only [putAll]
                go_simp
                refine hK _ _ ?_ hS ((fun w => Below.refl _ w) W) _ rfl rfl
                first | rfl | go_simp | simp
              · -- 33: Op.binOp BinOp.geq 3 (Operand.tmp 45) (Operand.const (Value.int IntKind.i64 256)) 3  [(27, 'false')]
                intro l hl vs W hS hR hp
                obtain rfl : l = [(0, 13), (1, 14), (2, 15), (3, 16), (4, 17), (5, 18), (6, 19), (7, 20), (8, 21), (9, 22), (10, 23), (11, 24), (12, 25), (13, 26), (14, 27), (15, 28), (16, 29), (17, 30), (18, 31), (19, 32), (20, 33), (21, 34), (22, 35), (23, 36), (24, 37), (25, 38), (26, 39), (27, 40), (28, 41), (29, 42), (30, 43), (31, 44), (32, 45)] := hl.symm.trans (by kernel_rfl)
                have p27 : vs 27 = _ := hp 27 (by decide) (by decide)
                have p32 : vs 32 = _ := hp 32 (by decide) (by decide)
                clear hp hl
                refine opgoal (_) (some 46) rfl rfl fun K hK => ?_
                have hfl := HFU.out
                refine Runs.mk ?_
                simp only [putAll]
                go_simp
                refine hK _ _ ?_ hS ((fun w => Below.refl _ w) W) _ rfl rfl
                first | rfl | go_simp | simp
              · -- 34: Op.pick (Operand.tmp 40) (Operand.const (Value.bool true)) (Operand.tmp 46)
                intro l hl vs W hS hR hp
                obtain rfl : l = [(0, 13), (1, 14), (2, 15), (3, 16), (4, 17), (5, 18), (6, 19), (7, 20), (8, 21), (9, 22), (10, 23), (11, 24), (12, 25), (13, 26), (14, 27), (15, 28), (16, 29), (17, 30), (18, 31), (19, 32), (20, 33), (21, 34), (22, 35), (23, 36), (24, 37), (25, 38), (26, 39), (27, 40), (28, 41), (29, 42), (30, 43), (31, 44), (32, 45), (33, 46)] := hl.symm.trans (by kernel_rfl)
                have p27 : vs 27 = _ := hp 27 (by decide) (by decide)
                have p33 : vs 33 = _ := hp 33 (by decide) (by decide)
                clear hp hl
                refine opgoal (_) (some 47) rfl rfl fun K hK => ?_
                refine Runs.mk ?_
                simp only [putAll]
                go_simp
                refine hK _ _ ?_ hS ((fun w => Below.refl _ w) W) _ rfl rfl
                first | rfl | go_simp | simp
            · intro l hl vs W hS hR hp
              obtain rfl : l = [(0, 13), (1, 14), (2, 15), (3, 16), (4, 17), (5, 18), (6, 19), (7, 20), (8, 21), (9, 22), (10, 23), (11, 24), (12, 25), (13, 26), (14, 27), (15, 28), (16, 29), (17, 30), (18, 31), (19, 32), (20, 33), (21, 34), (22, 35), (23, 36), (24, 37), (25, 38), (26, 39), (27, 40), (28, 41), (29, 42), (30, 43), (31, 44), (32, 45), (33, 46), (34, 47)] := hl.symm.trans (by kernel_rfl)
              have p0 : vs 0 = _ := hp 0 (by decide) (by decide)
              have p1 : vs 1 = _ := hp 1 (by decide) (by decide)
              have p2 : vs 2 = _ := hp 2 (by decide) (by decide)
              have p3 : vs 3 = _ := hp 3 (by decide) (by decide)
              have p4 : vs 4 = _ := hp 4 (by decide) (by decide)
              have p5 : vs 5 = _ := hp 5 (by decide) (by decide)
              have p6 : vs 6 = _ := hp 6 (by decide) (by decide)
              have p7 : vs 7 = _ := hp 7 (by decide) (by decide)
              have p8 : vs 8 = _ := hp 8 (by decide) (by decide)
              have p9 : vs 9 = _ := hp 9 (by decide) (by decide)
              have p10 : vs 10 = _ := hp 10 (by decide) (by decide)
              have p11 : vs 11 = _ := hp 11 (by decide) (by decide)
              have p12 : vs 12 = _ := hp 12 (by decide) (by decide)
              have p13 : vs 13 = _ := hp 13 (by decide) (by decide)
              have p14 : vs 14 = _ := hp 14 (by decide) (by decide)
              have p15 : vs 15 = _ := hp 15 (by decide) (by decide)
              have p16 : vs 16 = _ := hp 16 (by decide) (by decide)
              have p17 : vs 17 = _ := hp 17 (by decide) (by decide)
              have p18 : vs 18 = _ := hp 18 (by decide) (by decide)
              have p19 : vs 19 = _ := hp 19 (by decide) (by decide)
              have p20 : vs 20 = _ := hp 20 (by decide) (by decide)
              have p21 : vs 21 = _ := hp 21 (by decide) (by decide)
              have p22 : vs 22 = _ := hp 22 (by decide) (by decide)
              have p23 : vs 23 = _ := hp 23 (by decide) (by decide)
              have p24 : vs 24 = _ := hp 24 (by decide) (by decide)
              have p25 : vs 25 = _ := hp 25 (by decide) (by decide)
              have p26 : vs 26 = _ := hp 26 (by decide) (by decide)
              have p27 : vs 27 = _ := hp 27 (by decide) (by decide)
              have p28 : vs 28 = _ := hp 28 (by decide) (by decide)
              have p29 : vs 29 = _ := hp 29 (by decide) (by decide)
              have p30 : vs 30 = _ := hp 30 (by decide) (by decide)
              have p31 : vs 31 = _ := hp 31 (by decide) (by decide)
              have p32 : vs 32 = _ := hp 32 (by decide) (by decide)
              have p33 : vs 33 = _ := hp 33 (by decide) (by decide)
              have p34 : vs 34 = _ := hp 34 (by decide) (by decide)
              clear hp hl
              simp only [putAll_mk, setAll, List.setIfInBounds_toArray, List.set_cons_succ, List.set_cons_zero, p0, p1, p2, p3, p4, p5, p6, p7, p8, p9, p10, p11, p12, p13, p14, p15, p16, p17, p18, p19, p20, p21, p22, p23, p24, p25, p26, p27, p28, p29, p30, p31, p32, p33, p34]
              have HS := Lib.hid hS
              clear hS hR
              go_wp2
              go_roundw
              case rel => exact ⟨kk + 1, m + 1, Lk, vLk, vCk, by omega, by omega, by go_num, by go_num, HREL.out _ HS.out⟩
              case measure => simp [intOf]; omega
          · have HFU : Hid (decide ((256 : Int) ≤ (nL : Int)) = false) := Lib.hid (by simp; omega)
            have hkd' : decide (nL < 256) = true := by simp; omega
            rw [hkd'] at hF'
            simp only [Bool.not_false, Bool.and_self, if_true] at hF'
            have HF := Lib.hid hF'
            obtain ⟨FL, hFL⟩ : ∃ FL, Lk.flatMap encP = FL := ⟨_, rfl⟩
            obtain ⟨NW, hNW⟩ : ∃ NW, ([⟨px, py, pS, pq⟩] : List Pkt).flatMap encP = NW := ⟨_, rfl⟩
            have HNW : Hid (NW.length = 1 * 4 ∧ NW = [.int .i64 px, .int .i64 py, .string pS, .bool pq]) := Lib.hid (by rw [← hNW]; exact ⟨rfl, rfl⟩)
            obtain ⟨L1, hL1⟩ : ∃ L1, Lk ++ [⟨px, py, pS, pq⟩] = L1 := ⟨_, rfl⟩
            have HE1 : Hid (nL + 1 = L1.length ∧ FL ++ NW = L1.flatMap encP) := Lib.hid (by rw [← hL1, List.length_append, HN.out, List.flatMap_append, hFL, hNW]; exact ⟨rfl, rfl⟩)
            have HFL : Hid (FL.length = nL * 4) := Lib.hid (by rw [← hFL, flat_len encP_len, HN.out])
            have HOL : Hid (∀ u ∈ FL, u.oneCell' = true) := Lib.hid (by rw [← hFL]; exact one_pkt)
            have hn9 : Hid (nL ≤ 256) := Lib.hid hl256
            rw [hFL] at HLL
            have HREL : Hid (∀ W vLx vCx, Dd W d nodes vLx L1 vCx cs → Keep [d] wr W → (vLx = vLk ∨ ∀ k, vLx.ownBlock = some k → wr.heap.size ≤ k) → (vCx = vCk ∨ ∀ k, vCx.ownBlock = some k → wr.heap.size ≤ k) → Dd W d nodes vLx L1 vCx cs ∧ L1.length ≤ 256 ∧ GK d vL vC vLx vCx w W ∧ Hid ((sendL nodes f (ps.drop (kk + 1)) L1).1 = LF ∧ m + (sendL nodes f (ps.drop (kk + 1)) L1).2 = cF)) := Lib.hid fun W vLx vCx h1 h2 h3 h4 => ⟨h1, by rw [← hL1, List.length_append, HN.out]; simp; omega, HGK.out.trans ⟨h2, h3, h4⟩, Lib.hid (by rw [← hL1]; exact HF.out)⟩
            obtain ⟨VV, hVVe⟩ : ∃ VV, vLk = VV := ⟨_, rfl⟩
            rw [hVVe] at HDD HGK hVV HREL
            clear hF' hkd' hfull hFL hNW hL1
            go_wp2_with fail
            refine wp_region_one (fun W' => Below wr.heap.size wr W') (fun u v => Below u.heap.size u v) (fun a i => match i with
                | 0 => (fun v _ => v = .pointer (some ⟨d, 0, none⟩))
                | 1 => (fun v _ => v = .slice (some ⟨ab, ao, none⟩) N c)
                | 2 => (fun v _ => v = .int .i64 (kk : Int))
                | 3 => (fun v _ => v = .pointer (some ⟨ab, ao + kk * 4, none⟩))
                | 4 => (fun v _ => v = .pointer (some ⟨ab, ao + kk * 4, none⟩))
                | 5 => (fun v _ => v = .int .i64 px)
                | 6 => (fun v _ => v = .slice (some ⟨ab, ao, none⟩) N c)
                | 7 => (fun v _ => v = .int .i64 (kk : Int))
                | 8 => (fun v _ => v = .pointer (some ⟨ab, ao + kk * 4, none⟩))
                | 9 => (fun v _ => v = .pointer (some ⟨ab, ao + kk * 4 + 1, none⟩))
                | 10 => (fun v _ => v = .int .i64 py)
                | 11 => (fun v _ => v = .bool true)
                | 12 => (fun v _ => v = .bool false)
                | 13 => (fun v _ => v = .bool false)
                | 14 => (fun v _ => v = .pointer (some ⟨d, 0, none⟩))
                | 15 => (fun v _ => v = .slice (some ⟨ab, ao, none⟩) N c)
                | 16 => (fun v _ => v = .int .i64 (kk : Int))
                | 17 => (fun v _ => v = .pointer (some ⟨ab, ao + kk * 4, none⟩))
                | 18 => (fun v _ => v = .pointer (some ⟨ab, ao + kk * 4, none⟩))
                | 19 => (fun v _ => v = .int .i64 px)
                | 20 => (fun v _ => v = .slice (some ⟨ab, ao, none⟩) N c)
                | 21 => (fun v _ => v = .int .i64 (kk : Int))
                | 22 => (fun v _ => v = .pointer (some ⟨ab, ao + kk * 4, none⟩))
                | 23 => (fun v _ => v = .pointer (some ⟨ab, ao + kk * 4 + 1, none⟩))
                | 24 => (fun v _ => v = .int .i64 py)
                | 25 => (fun v _ => v = .bool false)
                | 26 => (fun v _ => v = .bool false)
                | 27 => (fun v _ => v = .bool false)
                | 28 => (fun v _ => v = .pointer (some ⟨d, 0, none⟩))
                | 29 => (fun v _ => v = .pointer (some ⟨d, 0, none⟩))
                | 30 => (fun v _ => v = .pointer (some ⟨d, 1, none⟩))
                | 31 => (fun v _ => v = .slice AL nL cL)
                | 32 => (fun v _ => v = .int .i64 (nL : Int))
                | 33 => (fun v _ => v = .bool false)
                | 34 => (fun v _ => v = .bool false)
                | _ => (fun _ _ => True)) #[0, 0, 0, 6, 14, 30, 0, 0, 192, 448, 960, 2047, 4095, 8191, 16383, 16383, 16383, 114687, 245759, 507903, 16383, 16383, 3162111, 7356415, 15745023, 33554431, 67108863, 134217727, 268435455, 536870911, 1073741823, 2147483647, 4294967295, 8589934591, 17179869183] #[0, 0, 0, 6, 8, 16, 0, 0, 192, 256, 512, 1057, 2048, 4096, 8192, 8192, 8192, 106496, 139264, 270336, 8192, 8192, 3153920, 4202496, 8396800, 17326080, 33562624, 67108864, 134217728, 402653184, 671088640, 1207959552, 2281701376, 4429185024, 8724152320] 34359738367 (by kernel_rfl) 35 rfl (fun m hm => by subst hm; kernel_rfl) (by kernel_rfl) (fun w => Below.refl _ w) (fun u v w h1 h2 => below2 h1 h2) ?_ (below_drewN 1 wr) ?_ ?_
            · intro i hi
              rcases (by omega : i = 0 ∨ i = 1 ∨ i = 2 ∨ i = 3 ∨ i = 4 ∨ i = 5 ∨ i = 6 ∨ i = 7 ∨ i = 8 ∨ i = 9 ∨ i = 10 ∨ i = 11 ∨ i = 12 ∨ i = 13 ∨ i = 14 ∨ i = 15 ∨ i = 16 ∨ i = 17 ∨ i = 18 ∨ i = 19 ∨ i = 20 ∨ i = 21 ∨ i = 22 ∨ i = 23 ∨ i = 24 ∨ i = 25 ∨ i = 26 ∨ i = 27 ∨ i = 28 ∨ i = 29 ∨ i = 30 ∨ i = 31 ∨ i = 32 ∨ i = 33 ∨ i = 34) with rfl | rfl | rfl | rfl | rfl | rfl | rfl | rfl | rfl | rfl | rfl | rfl | rfl | rfl | rfl | rfl | rfl | rfl | rfl | rfl | rfl | rfl | rfl | rfl | rfl | rfl | rfl | rfl | rfl | rfl | rfl | rfl | rfl | rfl | rfl
              · exact fun v w w' h hr => by exact h
              · exact fun v w w' h hr => by exact h
              · exact fun v w w' h hr => by exact h
              · exact fun v w w' h hr => by exact h
              · exact fun v w w' h hr => by exact h
              · exact fun v w w' h hr => by exact h
              · exact fun v w w' h hr => by exact h
              · exact fun v w w' h hr => by exact h
              · exact fun v w w' h hr => by exact h
              · exact fun v w w' h hr => by exact h
              · exact fun v w w' h hr => by exact h
              · exact fun v w w' h hr => by exact h
              · exact fun v w w' h hr => by exact h
              · exact fun v w w' h hr => by exact h
              · exact fun v w w' h hr => by exact h
              · exact fun v w w' h hr => by exact h
              · exact fun v w w' h hr => by exact h
              · exact fun v w w' h hr => by exact h
              · exact fun v w w' h hr => by exact h
              · exact fun v w w' h hr => by exact h
              · exact fun v w w' h hr => by exact h
              · exact fun v w w' h hr => by exact h
              · exact fun v w w' h hr => by exact h
              · exact fun v w w' h hr => by exact h
              · exact fun v w w' h hr => by exact h
              · exact fun v w w' h hr => by exact h
              · exact fun v w w' h hr => by exact h
              · exact fun v w w' h hr => by exact h
              · exact fun v w w' h hr => by exact h
              · exact fun v w w' h hr => by exact h
              · exact fun v w w' h hr => by exact h
              · exact fun v w w' h hr => by exact h
              · exact fun v w w' h hr => by exact h
              · exact fun v w w' h hr => by exact h
              · exact fun v w w' h hr => by exact h
            · intro i hi
              rcases (by omega : i = 0 ∨ i = 1 ∨ i = 2 ∨ i = 3 ∨ i = 4 ∨ i = 5 ∨ i = 6 ∨ i = 7 ∨ i = 8 ∨ i = 9 ∨ i = 10 ∨ i = 11 ∨ i = 12 ∨ i = 13 ∨ i = 14 ∨ i = 15 ∨ i = 16 ∨ i = 17 ∨ i = 18 ∨ i = 19 ∨ i = 20 ∨ i = 21 ∨ i = 22 ∨ i = 23 ∨ i = 24 ∨ i = 25 ∨ i = 26 ∨ i = 27 ∨ i = 28 ∨ i = 29 ∨ i = 30 ∨ i = 31 ∨ i = 32 ∨ i = 33 ∨ i = 34) with rfl | rfl | rfl | rfl | rfl | rfl | rfl | rfl | rfl | rfl | rfl | rfl | rfl | rfl | rfl | rfl | rfl | rfl | rfl | rfl | rfl | rfl | rfl | rfl | rfl | rfl | rfl | rfl | rfl | rfl | rfl | rfl | rfl | rfl | rfl
              · -- 0: Op.move (Operand.tmp 0)
                intro l hl vs W hS hR hp
                obtain rfl : l = [] := hl.symm.trans (by kernel_rfl)
                clear hp hl
                refine opgoal (_) (some 13) rfl rfl fun K hK => ?_
                refine Runs.mk ?_
                simp only [putAll]
                go_simp
                refine hK _ _ ?_ hS ((fun w => Below.refl _ w) W) _ rfl rfl
                first | rfl | go_simp | simp
              · -- 1: Op.move (Operand.tmp 1)
                intro l hl vs W hS hR hp
                obtain rfl : l = [] := hl.symm.trans (by kernel_rfl)
                clear hp hl
                refine opgoal (_) (some 14) rfl rfl fun K hK => ?_
                refine Runs.mk ?_
                simp only [putAll]
                go_simp
                refine hK _ _ ?_ hS ((fun w => Below.refl _ w) W) _ rfl rfl
                first | rfl | go_simp | simp
              · -- 2: Op.move (Operand.tmp 6)
                intro l hl vs W hS hR hp
                obtain rfl : l = [] := hl.symm.trans (by kernel_rfl)
                clear hp hl
                refine opgoal (_) (some 15) rfl rfl fun K hK => ?_
                refine Runs.mk ?_
                simp only [putAll]
                go_simp
                refine hK _ _ ?_ hS ((fun w => Below.refl _ w) W) _ rfl rfl
                first | rfl | go_simp | simp
              · -- 3: Op.indexAddr 47 (Operand.tmp 14) (Operand.tmp 15)
                intro l hl vs W hS hR hp
                obtain rfl : l = [(1, 14), (2, 15)] := hl.symm.trans (by kernel_rfl)
                have p1 : vs 1 = _ := hp 1 (by decide) (by decide)
                have p2 : vs 2 = _ := hp 2 (by decide) (by decide)
                clear hp hl
                refine opgoal (_) (some 16) rfl rfl fun K hK => ?_
                have hlt' := HLT.out
                refine Runs.mk ?_
                simp only [putAll]
                go_simp
                refine hK _ _ ?_ hS ((fun w => Below.refl _ w) W) _ rfl rfl
                first | rfl | go_simp | simp
              · -- 4: Op.fieldAddr 49 (Operand.tmp 16) 0
                intro l hl vs W hS hR hp
                obtain rfl : l = [(1, 14), (2, 15), (3, 16)] := hl.symm.trans (by kernel_rfl)
                have p3 : vs 3 = _ := hp 3 (by decide) (by decide)
                clear hp hl
                refine opgoal (_) (some 17) rfl rfl fun K hK => ?_
                refine Runs.mk ?_
                simp only [putAll]
                go_simp
                refine hK _ _ ?_ hS ((fun w => Below.refl _ w) W) _ rfl rfl
                first | rfl | go_simp | simp
              · -- 5: Op.load 3 (Operand.tmp 17)
                intro l hl vs W hS hR hp
                obtain rfl : l = [(1, 14), (2, 15), (3, 16), (4, 17)] := hl.symm.trans (by kernel_rfl)
                have p4 : vs 4 = _ := hp 4 (by decide) (by decide)
                clear hp hl
                refine opgoal (_) (some 18) rfl rfl fun K hK => ?_
                obtain ⟨f0, f1, f2, f3⟩ := HSR.out W hS
                refine Runs.mk ?_
                simp only [putAll]
                go_simp
                refine hK _ _ ?_ hS ((fun w => Below.refl _ w) W) _ rfl rfl
                first | rfl | go_simp | simp
              · -- 6: Op.move (Operand.tmp 1)
                intro l hl vs W hS hR hp
                obtain rfl : l = [] := hl.symm.trans (by kernel_rfl)
                clear hp hl
                refine opgoal (_) (some 19) rfl rfl fun K hK => ?_
                refine Runs.mk ?_
                simp only [putAll]
                go_simp
                refine hK _ _ ?_ hS ((fun w => Below.refl _ w) W) _ rfl rfl
                first | rfl | go_simp | simp
              · -- 7: Op.move (Operand.tmp 6)
                intro l hl vs W hS hR hp
                obtain rfl : l = [] := hl.symm.trans (by kernel_rfl)
                clear hp hl
                refine opgoal (_) (some 20) rfl rfl fun K hK => ?_
                refine Runs.mk ?_
                simp only [putAll]
                go_simp
                refine hK _ _ ?_ hS ((fun w => Below.refl _ w) W) _ rfl rfl
                first | rfl | go_simp | simp
              · -- 8: Op.indexAddr 47 (Operand.tmp 19) (Operand.tmp 20)
                intro l hl vs W hS hR hp
                obtain rfl : l = [(6, 19), (7, 20)] := hl.symm.trans (by kernel_rfl)
                have p6 : vs 6 = _ := hp 6 (by decide) (by decide)
                have p7 : vs 7 = _ := hp 7 (by decide) (by decide)
                clear hp hl
                refine opgoal (_) (some 21) rfl rfl fun K hK => ?_
                have hlt' := HLT.out
                refine Runs.mk ?_
                simp only [putAll]
                go_simp
                refine hK _ _ ?_ hS ((fun w => Below.refl _ w) W) _ rfl rfl
                first | rfl | go_simp | simp
              · -- 9: Op.fieldAddr 49 (Operand.tmp 21) 1
                intro l hl vs W hS hR hp
                obtain rfl : l = [(6, 19), (7, 20), (8, 21)] := hl.symm.trans (by kernel_rfl)
                have p8 : vs 8 = _ := hp 8 (by decide) (by decide)
                clear hp hl
                refine opgoal (_) (some 22) rfl rfl fun K hK => ?_
                refine Runs.mk ?_
                simp only [putAll]
                go_simp
                refine hK _ _ ?_ hS ((fun w => Below.refl _ w) W) _ rfl rfl
                first | rfl | go_simp | simp
              · -- 10: Op.load 3 (Operand.tmp 22)
                intro l hl vs W hS hR hp
                obtain rfl : l = [(6, 19), (7, 20), (8, 21), (9, 22)] := hl.symm.trans (by kernel_rfl)
                have p9 : vs 9 = _ := hp 9 (by decide) (by decide)
                clear hp hl
                refine opgoal (_) (some 23) rfl rfl fun K hK => ?_
                obtain ⟨f0, f1, f2, f3⟩ := HSR.out W hS
                refine Runs.mk ?_
                simp only [putAll]
                go_simp
                refine hK _ _ ?_ hS ((fun w => Below.refl _ w) W) _ rfl rfl
                first | rfl | go_simp | simp
              · -- 11: Op.call { callee := Callee.value (Operand.func 68), args := #[Operand.tmp 13, Operand.tmp 18, Operand.tmp 23], argTypes := #[44, 3, 3] }
                intro l hl vs W hS hR hp
                obtain rfl : l = [(0, 13), (1, 14), (2, 15), (3, 16), (4, 17), (5, 18), (6, 19), (7, 20), (8, 21), (9, 22), (10, 23)] := hl.symm.trans (by kernel_rfl)
                have p0 : vs 0 = _ := hp 0 (by decide) (by decide)
                have p5 : vs 5 = _ := hp 5 (by decide) (by decide)
                have p10 : vs 10 = _ := hp 10 (by decide) (by decide)
                clear hp hl
                refine opgoal (_) (some 24) rfl rfl fun K hK => ?_
                refine Runs.mk ?_
                simp only [putAll]
                go_simp
                refine (HRT.out W hS).mono ?_
                rintro e w' ⟨rfl, rfl⟩
                go_simp
                exact hK _ _ rfl hS (Below.refl _ _) _ rfl rfl
              · -- 12: Op.unOp UnOp.not 4 (Operand.tmp 24)
                intro l hl vs W hS hR hp
                obtain rfl : l = [(0, 13), (1, 14), (2, 15), (3, 16), (4, 17), (5, 18), (6, 19), (7, 20), (8, 21), (9, 22), (10, 23), (11, 24)] := hl.symm.trans (by kernel_rfl)
                have p11 : vs 11 = _ := hp 11 (by decide) (by decide)
                clear hp hl
                refine opgoal (_) (some 25) rfl rfl fun K hK => ?_
                refine Runs.mk ?_
                simp only [putAll]
                go_simp
                refine hK _ _ ?_ hS ((fun w => Below.refl _ w) W) _ rfl rfl
                first | rfl | go_simp | simp
              · -- 13: Op.move (Operand.tmp 25)
                intro l hl vs W hS hR hp
                obtain rfl : l = [(0, 13), (1, 14), (2, 15), (3, 16), (4, 17), (5, 18), (6, 19), (7, 20), (8, 21), (9, 22), (10, 23), (11, 24), (12, 25)] := hl.symm.trans (by kernel_rfl)
                have p12 : vs 12 = _ := hp 12 (by decide) (by decide)
                clear hp hl
                refine opgoal (_) (some 26) rfl rfl fun K hK => ?_
                refine Runs.mk ?_
                simp only [putAll]
                go_simp
                refine hK _ _ ?_ hS ((fun w => Below.refl _ w) W) _ rfl rfl
                first | rfl | go_simp | simp
              · -- 14: Op.move (Operand.tmp 0)  [(13, 'false')]
                intro l hl vs W hS hR hp
                obtain rfl : l = [(0, 13), (1, 14), (2, 15), (3, 16), (4, 17), (5, 18), (6, 19), (7, 20), (8, 21), (9, 22), (10, 23), (11, 24), (12, 25), (13, 26)] := hl.symm.trans (by kernel_rfl)
                have p13 : vs 13 = _ := hp 13 (by decide) (by decide)
                clear hp hl
                refine opgoal (_) (some 27) rfl rfl fun K hK => ?_
                refine Runs.mk ?_
                simp only [putAll]
                go_simp
                refine hK _ _ ?_ hS ((fun w => Below.refl _ w) W) _ rfl rfl
                first | rfl | go_simp | simp
              · -- 15: Op.move (Operand.tmp 1)  [(13, 'false')]
                intro l hl vs W hS hR hp
                obtain rfl : l = [(0, 13), (1, 14), (2, 15), (3, 16), (4, 17), (5, 18), (6, 19), (7, 20), (8, 21), (9, 22), (10, 23), (11, 24), (12, 25), (13, 26)] := hl.symm.trans (by kernel_rfl)
                have p13 : vs 13 = _ := hp 13 (by decide) (by decide)
                clear hp hl
                refine opgoal (_) (some 28) rfl rfl fun K hK => ?_
                refine Runs.mk ?_
                simp only [putAll]
                go_simp
                refine hK _ _ ?_ hS ((fun w => Below.refl _ w) W) _ rfl rfl
                first | rfl | go_simp | simp
              · -- 16: Op.move (Operand.tmp 6)  [(13, 'false')]
                intro l hl vs W hS hR hp
                obtain rfl : l = [(0, 13), (1, 14), (2, 15), (3, 16), (4, 17), (5, 18), (6, 19), (7, 20), (8, 21), (9, 22), (10, 23), (11, 24), (12, 25), (13, 26)] := hl.symm.trans (by kernel_rfl)
                have p13 : vs 13 = _ := hp 13 (by decide) (by decide)
                clear hp hl
                refine opgoal (_) (some 29) rfl rfl fun K hK => ?_
                refine Runs.mk ?_
                simp only [putAll]
                go_simp
                refine hK _ _ ?_ hS ((fun w => Below.refl _ w) W) _ rfl rfl
                first | rfl | go_simp | simp
              · -- 17: Op.indexAddr 47 (Operand.tmp 28) (Operand.tmp 29)  [(13, 'false')]
                intro l hl vs W hS hR hp
                obtain rfl : l = [(0, 13), (1, 14), (2, 15), (3, 16), (4, 17), (5, 18), (6, 19), (7, 20), (8, 21), (9, 22), (10, 23), (11, 24), (12, 25), (13, 26), (15, 28), (16, 29)] := hl.symm.trans (by kernel_rfl)
                have p13 : vs 13 = _ := hp 13 (by decide) (by decide)
                have p15 : vs 15 = _ := hp 15 (by decide) (by decide)
                have p16 : vs 16 = _ := hp 16 (by decide) (by decide)
                clear hp hl
                refine opgoal (_) (some 30) rfl rfl fun K hK => ?_
                have hlt' := HLT.out
                refine Runs.mk ?_
                simp only [putAll]
                go_simp
                refine hK _ _ ?_ hS ((fun w => Below.refl _ w) W) _ rfl rfl
                first | rfl | go_simp | simp
              · -- 18: Op.fieldAddr 49 (Operand.tmp 30) 0  [(13, 'false')]
                intro l hl vs W hS hR hp
                obtain rfl : l = [(0, 13), (1, 14), (2, 15), (3, 16), (4, 17), (5, 18), (6, 19), (7, 20), (8, 21), (9, 22), (10, 23), (11, 24), (12, 25), (13, 26), (15, 28), (16, 29), (17, 30)] := hl.symm.trans (by kernel_rfl)
                have p13 : vs 13 = _ := hp 13 (by decide) (by decide)
                have p17 : vs 17 = _ := hp 17 (by decide) (by decide)
                clear hp hl
                refine opgoal (_) (some 31) rfl rfl fun K hK => ?_
                refine Runs.mk ?_
                simp only [putAll]
                go_simp
                refine hK _ _ ?_ hS ((fun w => Below.refl _ w) W) _ rfl rfl
                first | rfl | go_simp | simp
              · -- 19: Op.load 3 (Operand.tmp 31)  [(13, 'false')]
                intro l hl vs W hS hR hp
                obtain rfl : l = [(0, 13), (1, 14), (2, 15), (3, 16), (4, 17), (5, 18), (6, 19), (7, 20), (8, 21), (9, 22), (10, 23), (11, 24), (12, 25), (13, 26), (15, 28), (16, 29), (17, 30), (18, 31)] := hl.symm.trans (by kernel_rfl)
                have p13 : vs 13 = _ := hp 13 (by decide) (by decide)
                have p18 : vs 18 = _ := hp 18 (by decide) (by decide)
                clear hp hl
                refine opgoal (_) (some 32) rfl rfl fun K hK => ?_
                obtain ⟨f0, f1, f2, f3⟩ := HSR.out W hS
                refine Runs.mk ?_
                simp only [putAll]
                go_simp
                refine hK _ _ ?_ hS ((fun w => Below.refl _ w) W) _ rfl rfl
                first | rfl | go_simp | simp
              · -- 20: Op.move (Operand.tmp 1)  [(13, 'false')]
                intro l hl vs W hS hR hp
                obtain rfl : l = [(0, 13), (1, 14), (2, 15), (3, 16), (4, 17), (5, 18), (6, 19), (7, 20), (8, 21), (9, 22), (10, 23), (11, 24), (12, 25), (13, 26)] := hl.symm.trans (by kernel_rfl)
                have p13 : vs 13 = _ := hp 13 (by decide) (by decide)
                clear hp hl
                refine opgoal (_) (some 33) rfl rfl fun K hK => ?_
                refine Runs.mk ?_
                simp only [putAll]
                go_simp
                refine hK _ _ ?_ hS ((fun w => Below.refl _ w) W) _ rfl rfl
                first | rfl | go_simp | simp
              · -- 21: Op.move (Operand.tmp 6)  [(13, 'false')]
                intro l hl vs W hS hR hp
                obtain rfl : l = [(0, 13), (1, 14), (2, 15), (3, 16), (4, 17), (5, 18), (6, 19), (7, 20), (8, 21), (9, 22), (10, 23), (11, 24), (12, 25), (13, 26)] := hl.symm.trans (by kernel_rfl)
                have p13 : vs 13 = _ := hp 13 (by decide) (by decide)
                clear hp hl
                refine opgoal (_) (some 34) rfl rfl fun K hK => ?_
                refine Runs.mk ?_
                simp only [putAll]
                go_simp
                refine hK _ _ ?_ hS ((fun w => Below.refl _ w) W) _ rfl rfl
                first | rfl | go_simp | simp
              · -- 22: Op.indexAddr 47 (Operand.tmp 33) (Operand.tmp 34)  [(13, 'false')]
                intro l hl vs W hS hR hp
                obtain rfl : l = [(0, 13), (1, 14), (2, 15), (3, 16), (4, 17), (5, 18), (6, 19), (7, 20), (8, 21), (9, 22), (10, 23), (11, 24), (12, 25), (13, 26), (20, 33), (21, 34)] := hl.symm.trans (by kernel_rfl)
                have p13 : vs 13 = _ := hp 13 (by decide) (by decide)
                have p20 : vs 20 = _ := hp 20 (by decide) (by decide)
                have p21 : vs 21 = _ := hp 21 (by decide) (by decide)
                clear hp hl
                refine opgoal (_) (some 35) rfl rfl fun K hK => ?_
                have hlt' := HLT.out
                refine Runs.mk ?_
                simp only [putAll]
                go_simp
                refine hK _ _ ?_ hS ((fun w => Below.refl _ w) W) _ rfl rfl
                first | rfl | go_simp | simp
              · -- 23: Op.fieldAddr 49 (Operand.tmp 35) 1  [(13, 'false')]
                intro l hl vs W hS hR hp
                obtain rfl : l = [(0, 13), (1, 14), (2, 15), (3, 16), (4, 17), (5, 18), (6, 19), (7, 20), (8, 21), (9, 22), (10, 23), (11, 24), (12, 25), (13, 26), (20, 33), (21, 34), (22, 35)] := hl.symm.trans (by kernel_rfl)
                have p13 : vs 13 = _ := hp 13 (by decide) (by decide)
                have p22 : vs 22 = _ := hp 22 (by decide) (by decide)
                clear hp hl
                refine opgoal (_) (some 36) rfl rfl fun K hK => ?_
                refine Runs.mk ?_
                simp only [putAll]
                go_simp
                refine hK _ _ ?_ hS ((fun w => Below.refl _ w) W) _ rfl rfl
                first | rfl | go_simp | simp
              · -- 24: Op.load 3 (Operand.tmp 36)  [(13, 'false')]
                intro l hl vs W hS hR hp
                obtain rfl : l = [(0, 13), (1, 14), (2, 15), (3, 16), (4, 17), (5, 18), (6, 19), (7, 20), (8, 21), (9, 22), (10, 23), (11, 24), (12, 25), (13, 26), (20, 33), (21, 34), (22, 35), (23, 36)] := hl.symm.trans (by kernel_rfl)
                have p13 : vs 13 = _ := hp 13 (by decide) (by decide)
                have p23 : vs 23 = _ := hp 23 (by decide) (by decide)
                clear hp hl
                refine opgoal (_) (some 37) rfl rfl fun K hK => ?_
                obtain ⟨f0, f1, f2, f3⟩ := HSR.out W hS
                refine Runs.mk ?_
                simp only [putAll]
                go_simp
                refine hK _ _ ?_ hS ((fun w => Below.refl _ w) W) _ rfl rfl
                first | rfl | go_simp | simp
              · -- 25: Op.call { callee := Callee.value (Operand.func 69), args := #[Operand.tmp 27, Operand.tmp 32, Operand.tmp 37], argTypes := #[44, 3, 3] }  [(13, 'false')]
                intro l hl vs W hS hR hp
                obtain rfl : l = [(0, 13), (1, 14), (2, 15), (3, 16), (4, 17), (5, 18), (6, 19), (7, 20), (8, 21), (9, 22), (10, 23), (11, 24), (12, 25), (13, 26), (14, 27), (15, 28), (16, 29), (17, 30), (18, 31), (19, 32), (20, 33), (21, 34), (22, 35), (23, 36), (24, 37)] := hl.symm.trans (by kernel_rfl)
                have p13 : vs 13 = _ := hp 13 (by decide) (by decide)
                have p14 : vs 14 = _ := hp 14 (by decide) (by decide)
                have p19 : vs 19 = _ := hp 19 (by decide) (by decide)
                have p24 : vs 24 = _ := hp 24 (by decide) (by decide)
                clear hp hl
                refine opgoal (_) (some 38) rfl rfl fun K hK => ?_
                refine Runs.mk ?_
                simp only [putAll]
                go_simp
                refine (HCT.out W hS).mono ?_
                rintro e w' ⟨rfl, hb⟩
                go_simp
                exact hK _ _ rfl (below2 hS hb) hb _ rfl rfl
              · -- 26: Op.pick (Operand.tmp 26) (Operand.const (Value.bool true)) (Operand.tmp 38)
                intro l hl vs W hS hR hp
                obtain rfl : l = [(0, 13), (1, 14), (2, 15), (3, 16), (4, 17), (5, 18), (6, 19), (7, 20), (8, 21), (9, 22), (10, 23), (11, 24), (12, 25), (13, 26), (14, 27), (15, 28), (16, 29), (17, 30), (18, 31), (19, 32), (20, 33), (21, 34), (22, 35), (23, 36), (24, 37), (25, 38)] := hl.symm.trans (by kernel_rfl)
                have p13 : vs 13 = _ := hp 13 (by decide) (by decide)
                have p25 : vs 25 = _ := hp 25 (by decide) (by decide)
                clear hp hl
                refine opgoal (_) (some 39) rfl rfl fun K hK => ?_
                refine Runs.mk ?_
                simp only [putAll]
                go_simp
                refine hK _ _ ?_ hS ((fun w => Below.refl _ w) W) _ rfl rfl
                first | rfl | go_simp | simp
              · -- 27: Op.move (Operand.tmp 39)
                intro l hl vs W hS hR hp
                obtain rfl : l = [(0, 13), (1, 14), (2, 15), (3, 16), (4, 17), (5, 18), (6, 19), (7, 20), (8, 21), (9, 22), (10, 23), (11, 24), (12, 25), (13, 26), (14, 27), (15, 28), (16, 29), (17, 30), (18, 31), (19, 32), (20, 33), (21, 34), (22, 35), (23, 36), (24, 37), (25, 38), (26, 39)] := hl.symm.trans (by kernel_rfl)
                have p26 : vs 26 = _ := hp 26 (by decide) (by decide)
                clear hp hl
                refine opgoal (_) (some 40) rfl rfl fun K hK => ?_
                refine Runs.mk ?_
                simp only [putAll]
                go_simp
                refine hK _ _ ?_ hS ((fun w => Below.refl _ w) W) _ rfl rfl
                first | rfl | go_simp | simp
              · -- 28: Op.move (Operand.tmp 0)  [(27, 'false')]
                intro l hl vs W hS hR hp
                obtain rfl : l = [(0, 13), (1, 14), (2, 15), (3, 16), (4, 17), (5, 18), (6, 19), (7, 20), (8, 21), (9, 22), (10, 23), (11, 24), (12, 25), (13, 26), (14, 27), (15, 28), (16, 29), (17, 30), (18, 31), (19, 32), (20, 33), (21, 34), (22, 35), (23, 36), (24, 37), (25, 38), (26, 39), (27, 40)] := hl.symm.trans (by kernel_rfl)
                have p27 : vs 27 = _ := hp 27 (by decide) (by decide)
                clear hp hl
                refine opgoal (_) (some 41) rfl rfl fun K hK => ?_
                refine Runs.mk ?_
                simp only [putAll]
                go_simp
                refine hK _ _ ?_ hS ((fun w => Below.refl _ w) W) _ rfl rfl
                first | rfl | go_simp | simp
              · -- 29: Op.nilCheck (Operand.tmp 41)  [(27, 'false')]
                intro l hl vs W hS hR hp
                obtain rfl : l = [(0, 13), (1, 14), (2, 15), (3, 16), (4, 17), (5, 18), (6, 19), (7, 20), (8, 21), (9, 22), (10, 23), (11, 24), (12, 25), (13, 26), (14, 27), (15, 28), (16, 29), (17, 30), (18, 31), (19, 32), (20, 33), (21, 34), (22, 35), (23, 36), (24, 37), (25, 38), (26, 39), (27, 40), (28, 41)] := hl.symm.trans (by kernel_rfl)
                have p27 : vs 27 = _ := hp 27 (by decide) (by decide)
                have p28 : vs 28 = _ := hp 28 (by decide) (by decide)
                clear hp hl
                refine opgoal (_) (some 42) rfl rfl fun K hK => ?_
                refine Runs.mk ?_
                simp only [putAll]
                go_simp
                refine hK _ _ ?_ hS ((fun w => Below.refl _ w) W) _ rfl rfl
                first | rfl | go_simp | simp
              · -- 30: Op.fieldAddr 56 (Operand.tmp 42) 1  [(27, 'false')]
                intro l hl vs W hS hR hp
                obtain rfl : l = [(0, 13), (1, 14), (2, 15), (3, 16), (4, 17), (5, 18), (6, 19), (7, 20), (8, 21), (9, 22), (10, 23), (11, 24), (12, 25), (13, 26), (14, 27), (15, 28), (16, 29), (17, 30), (18, 31), (19, 32), (20, 33), (21, 34), (22, 35), (23, 36), (24, 37), (25, 38), (26, 39), (27, 40), (28, 41), (29, 42)] := hl.symm.trans (by kernel_rfl)
                have p27 : vs 27 = _ := hp 27 (by decide) (by decide)
                have p29 : vs 29 = _ := hp 29 (by decide) (by decide)
                clear hp hl
                refine opgoal (_) (some 43) rfl rfl fun K hK => ?_
                refine Runs.mk ?_
                simp only [putAll]
                go_simp
                refine hK _ _ ?_ hS ((fun w => Below.refl _ w) W) _ rfl rfl
                first | rfl | go_simp | simp
              · -- 31: Op.load 47 (Operand.tmp 43)  [(27, 'false')]
                intro l hl vs W hS hR hp
                obtain rfl : l = [(0, 13), (1, 14), (2, 15), (3, 16), (4, 17), (5, 18), (6, 19), (7, 20), (8, 21), (9, 22), (10, 23), (11, 24), (12, 25), (13, 26), (14, 27), (15, 28), (16, 29), (17, 30), (18, 31), (19, 32), (20, 33), (21, 34), (22, 35), (23, 36), (24, 37), (25, 38), (26, 39), (27, 40), (28, 41), (29, 42), (30, 43)] := hl.symm.trans (by kernel_rfl)
                have p27 : vs 27 = _ := hp 27 (by decide) (by decide)
                have p30 : vs 30 = _ := hp 30 (by decide) (by decide)
                clear hp hl
                refine opgoal (_) (some 44) rfl rfl fun K hK => ?_
                have hc2 := cell_below hS HCL.out
                refine Runs.mk ?_
                simp only [putAll]
                go_simp
                refine hK _ _ ?_ hS ((fun w => Below.refl _ w) W) _ rfl rfl
                first | rfl | go_simp | simp
              · -- 32: Op.call { callee := Callee.builtin Builtin.len, args := #[Operand.tmp 44], argTypes := #[47] }  [(27, 'false')]
                intro l hl vs W hS hR hp
                obtain rfl : l = [(0, 13), (1, 14), (2, 15), (3, 16), (4, 17), (5, 18), (6, 19), (7, 20), (8, 21), (9, 22), (10, 23), (11, 24), (12, 25), (13, 26), (14, 27), (15, 28), (16, 29), (17, 30), (18, 31), (19, 32), (20, 33), (21, 34), (22, 35), (23, 36), (24, 37), (25, 38), (26, 39), (27, 40), (28, 41), (29, 42), (30, 43), (31, 44)] := hl.symm.trans (by kernel_rfl)
                have p27 : vs 27 = _ := hp 27 (by decide) (by decide)
                have p31 : vs 31 = _ := hp 31 (by decide) (by decide)
                clear hp hl
                refine opgoal (_) (some 45) rfl rfl fun K hK => ?_
                refine Runs.mk ?_
                simp only [putAll]
                go_simp
                refine hK _ _ ?_ hS ((fun w => Below.refl _ w) W) _ rfl rfl
                first | rfl | go_simp | simp
              · -- 33: Op.binOp BinOp.geq 3 (Operand.tmp 45) (Operand.const (Value.int IntKind.i64 256)) 3  [(27, 'false')]
                intro l hl vs W hS hR hp
                obtain rfl : l = [(0, 13), (1, 14), (2, 15), (3, 16), (4, 17), (5, 18), (6, 19), (7, 20), (8, 21), (9, 22), (10, 23), (11, 24), (12, 25), (13, 26), (14, 27), (15, 28), (16, 29), (17, 30), (18, 31), (19, 32), (20, 33), (21, 34), (22, 35), (23, 36), (24, 37), (25, 38), (26, 39), (27, 40), (28, 41), (29, 42), (30, 43), (31, 44), (32, 45)] := hl.symm.trans (by kernel_rfl)
                have p27 : vs 27 = _ := hp 27 (by decide) (by decide)
                have p32 : vs 32 = _ := hp 32 (by decide) (by decide)
                clear hp hl
                refine opgoal (_) (some 46) rfl rfl fun K hK => ?_
                have hfl := HFU.out
                refine Runs.mk ?_
                simp only [putAll]
                go_simp
                refine hK _ _ ?_ hS ((fun w => Below.refl _ w) W) _ rfl rfl
                first | rfl | go_simp | simp
              · -- 34: Op.pick (Operand.tmp 40) (Operand.const (Value.bool true)) (Operand.tmp 46)
                intro l hl vs W hS hR hp
                obtain rfl : l = [(0, 13), (1, 14), (2, 15), (3, 16), (4, 17), (5, 18), (6, 19), (7, 20), (8, 21), (9, 22), (10, 23), (11, 24), (12, 25), (13, 26), (14, 27), (15, 28), (16, 29), (17, 30), (18, 31), (19, 32), (20, 33), (21, 34), (22, 35), (23, 36), (24, 37), (25, 38), (26, 39), (27, 40), (28, 41), (29, 42), (30, 43), (31, 44), (32, 45), (33, 46)] := hl.symm.trans (by kernel_rfl)
                have p27 : vs 27 = _ := hp 27 (by decide) (by decide)
                have p33 : vs 33 = _ := hp 33 (by decide) (by decide)
                clear hp hl
                refine opgoal (_) (some 47) rfl rfl fun K hK => ?_
                refine Runs.mk ?_
                simp only [putAll]
                go_simp
                refine hK _ _ ?_ hS ((fun w => Below.refl _ w) W) _ rfl rfl
                first | rfl | go_simp | simp
            · intro l hl vs W hS hR hp
              obtain rfl : l = [(0, 13), (1, 14), (2, 15), (3, 16), (4, 17), (5, 18), (6, 19), (7, 20), (8, 21), (9, 22), (10, 23), (11, 24), (12, 25), (13, 26), (14, 27), (15, 28), (16, 29), (17, 30), (18, 31), (19, 32), (20, 33), (21, 34), (22, 35), (23, 36), (24, 37), (25, 38), (26, 39), (27, 40), (28, 41), (29, 42), (30, 43), (31, 44), (32, 45), (33, 46), (34, 47)] := hl.symm.trans (by kernel_rfl)
              have p0 : vs 0 = _ := hp 0 (by decide) (by decide)
              have p1 : vs 1 = _ := hp 1 (by decide) (by decide)
              have p2 : vs 2 = _ := hp 2 (by decide) (by decide)
              have p3 : vs 3 = _ := hp 3 (by decide) (by decide)
              have p4 : vs 4 = _ := hp 4 (by decide) (by decide)
              have p5 : vs 5 = _ := hp 5 (by decide) (by decide)
              have p6 : vs 6 = _ := hp 6 (by decide) (by decide)
              have p7 : vs 7 = _ := hp 7 (by decide) (by decide)
              have p8 : vs 8 = _ := hp 8 (by decide) (by decide)
              have p9 : vs 9 = _ := hp 9 (by decide) (by decide)
              have p10 : vs 10 = _ := hp 10 (by decide) (by decide)
              have p11 : vs 11 = _ := hp 11 (by decide) (by decide)
              have p12 : vs 12 = _ := hp 12 (by decide) (by decide)
              have p13 : vs 13 = _ := hp 13 (by decide) (by decide)
              have p14 : vs 14 = _ := hp 14 (by decide) (by decide)
              have p15 : vs 15 = _ := hp 15 (by decide) (by decide)
              have p16 : vs 16 = _ := hp 16 (by decide) (by decide)
              have p17 : vs 17 = _ := hp 17 (by decide) (by decide)
              have p18 : vs 18 = _ := hp 18 (by decide) (by decide)
              have p19 : vs 19 = _ := hp 19 (by decide) (by decide)
              have p20 : vs 20 = _ := hp 20 (by decide) (by decide)
              have p21 : vs 21 = _ := hp 21 (by decide) (by decide)
              have p22 : vs 22 = _ := hp 22 (by decide) (by decide)
              have p23 : vs 23 = _ := hp 23 (by decide) (by decide)
              have p24 : vs 24 = _ := hp 24 (by decide) (by decide)
              have p25 : vs 25 = _ := hp 25 (by decide) (by decide)
              have p26 : vs 26 = _ := hp 26 (by decide) (by decide)
              have p27 : vs 27 = _ := hp 27 (by decide) (by decide)
              have p28 : vs 28 = _ := hp 28 (by decide) (by decide)
              have p29 : vs 29 = _ := hp 29 (by decide) (by decide)
              have p30 : vs 30 = _ := hp 30 (by decide) (by decide)
              have p31 : vs 31 = _ := hp 31 (by decide) (by decide)
              have p32 : vs 32 = _ := hp 32 (by decide) (by decide)
              have p33 : vs 33 = _ := hp 33 (by decide) (by decide)
              have p34 : vs 34 = _ := hp 34 (by decide) (by decide)
              clear hp hl
              simp only [putAll_mk, setAll, List.setIfInBounds_toArray, List.set_cons_succ, List.set_cons_zero, p0, p1, p2, p3, p4, p5, p6, p7, p8, p9, p10, p11, p12, p13, p14, p15, p16, p17, p18, p19, p20, p21, p22, p23, p24, p25, p26, p27, p28, p29, p30, p31, p32, p33, p34]
              have HS := Lib.hid hS
              clear hS hR
              obtain ⟨w1, hw1⟩ : ∃ w1, W = w1 := ⟨_, rfl⟩
              rw [hw1] at HS ⊢
              clear hw1
              have hD1 := HDD.out.below HS.out
              have HD := Lib.hid hD1
              have HCL := Lib.hid (cell_below HS.out HCL.out)
              have HLL : Hid (∀ W, Below w1.heap.size w1 W → Lies W AL FL) := Lib.hid fun W hb => HLL.out W (below2 HS.out hb)
              have HEL : Hid (∀ W, Below w1.heap.size w1 W → W.cell? ⟨ab, ao + kk * 4, none⟩ = some (.int .i64 px) ∧ W.cell? ⟨ab, ao + kk * 4 + 1, none⟩ = some (.int .i64 py) ∧ W.cell? ⟨ab, ao + kk * 4 + 2, none⟩ = some (.string pS) ∧ W.cell? ⟨ab, ao + kk * 4 + 3, none⟩ = some (.bool pq)) := Lib.hid fun W hb => HSR.out W (below2 HS.out hb)
              have HFIN : Hid (∀ W, (∃ v', Dd W d nodes v' L1 vCk cs ∧ ∀ k, v'.ownBlock = some k → w1.heap.size ≤ k) → Lo w1.heap.size d w1.drew W → GD d nodes VV vCk L1 cs wr W) := Lib.hid fun W h1 h2 => gd_of HS.out h1 h2
              have HCL : Hid (w1.cell? ⟨d, 1, none⟩ = some VV) := Lib.hid (by rw [hVV.out]; exact HCL.out)
              clear hD1
              go_wp2_with fail
              refine wp_region_last (fun W => Below w1.heap.size w1 W) (Lo w1.heap.size d) (fun k u v => ((k = 12 ∨ k = 15) → (Lo w1.heap.size d) u v) ∧ (¬ (k = 12 ∨ k = 15) → (fun u v => Below u.heap.size u v ∧ Below w1.heap.size u v) u v)) (fun a i => match i with
                  | 0 => (fun v _ => v = .pointer (some ⟨d, 0, none⟩))
                  | 1 => (fun v W => ∃ A0, v = .slice A0 0 0 ∧ W.ownsRow w1.heap.size DPT 4 v 0 [])
                  | 2 => (fun v _ => v = .pointer (some ⟨d, 0, none⟩))
                  | 3 => (fun v _ => v = .pointer (some ⟨d, 0, none⟩))
                  | 4 => (fun v _ => v = .pointer (some ⟨d, 1, none⟩))
                  | 5 => (fun v _ => v = .slice (AL) nL cL)
                  | 6 => (fun v W => W.ownsRow w1.heap.size DPT 4 v (nL) (FL))
                  | 7 => (fun v _ => v = .slice (some ⟨ab, ao, none⟩) N c)
                  | 8 => (fun v _ => v = .int .i64 (kk : Int))
                  | 9 => (fun v _ => v = .pointer (some ⟨ab, ao + kk * 4, none⟩))
                  | 10 => (fun v _ => v = .agg #[.int .i64 px, .int .i64 py, .string pS, .bool pq])
                  | 11 => (fun v W => ∃ j, v = .slice (some ⟨j, 0, none⟩) 1 1 ∧ j < W.heap.size ∧ W.heap[j]? = some (.cells #[.int .i64 px, .int .i64 py, .string pS, .bool pq] DPT (0, 0)))
                  | 12 => (fun v W => W.ownsRow w1.heap.size DPT 4 v (nL + 1) (FL ++ NW))
                  | 13 => (fun v _ => v = .pointer (some ⟨d, 0, none⟩))
                  | 14 => (fun v _ => v = .pointer (some ⟨d, 1, none⟩))
                  | 15 => (fun v W => ∃ v', Dd W d nodes v' L1 vCk cs ∧ ∀ k, v'.ownBlock = some k → w1.heap.size ≤ k)
                  | _ => (fun _ _ => True)) #[0, 0, 0, 4, 12, 28, 62, 0, 0, 384, 896, 1920, 4094, 8191, 16383, 32767] #[0, 0, 0, 4, 8, 16, 34, 0, 0, 384, 512, 1024, 2112, 1, 8192, 20480] 59325 15 (by kernel_rfl) 16 rfl (by kernel_rfl) (fun m hm => by subst hm; kernel_rfl) (by kernel_rfl) (fun w => Lo.refl _ _ _) (fun u v w h1 h2 => h1.trans h2) ?_ ?_ (below_drewN 1 w1) ?_ ?_
              · intro k u v hk hr
                by_cases hs : k = 12 ∨ k = 15
                · have h := hr.1 hs; exact h
                · have h := hr.2 hs; exact Lo.of h.2
              · intro i hi hiz
                rcases (by omega : i = 0 ∨ i = 1 ∨ i = 2 ∨ i = 3 ∨ i = 4 ∨ i = 5 ∨ i = 6 ∨ i = 7 ∨ i = 8 ∨ i = 9 ∨ i = 10 ∨ i = 11 ∨ i = 12 ∨ i = 13 ∨ i = 14 ∨ i = 15) with rfl | rfl | rfl | rfl | rfl | rfl | rfl | rfl | rfl | rfl | rfl | rfl | rfl | rfl | rfl | rfl
                · intro k hk q hq hqt v w w' h hr
                  by_cases hs : k = 12 ∨ k = 15
                  · have hr0 := hr.1 hs
                    rcases hs with rfl | rfl
                    · exact (fun (h : _) (hr : _) => by exact h) h hr0
                    · exact (fun (h : _) (hr : _) => by exact h) h hr0
                  · have hr := hr.2 hs
                    exact h
                · intro k hk q hq hqt v w w' h hr
                  by_cases hs : k = 12 ∨ k = 15
                  · have hr0 := hr.1 hs
                    rcases hs with rfl | rfl
                    · exact absurd (hq.trans hqt) (ne_true_of_eq_false (by kernel_rfl))
                    · exact absurd (hq.trans hqt) (ne_true_of_eq_false (by kernel_rfl))
                  · have hr := hr.2 hs
                    obtain ⟨A0, h1, h2⟩ := h; exact ⟨A0, h1, own_kept h2 hr.1⟩
                · intro k hk q hq hqt v w w' h hr
                  by_cases hs : k = 12 ∨ k = 15
                  · have hr0 := hr.1 hs
                    rcases hs with rfl | rfl
                    · exact (fun (h : _) (hr : _) => by exact h) h hr0
                    · exact (fun (h : _) (hr : _) => by exact h) h hr0
                  · have hr := hr.2 hs
                    exact h
                · intro k hk q hq hqt v w w' h hr
                  by_cases hs : k = 12 ∨ k = 15
                  · have hr0 := hr.1 hs
                    rcases hs with rfl | rfl
                    · exact (fun (h : _) (hr : _) => by exact h) h hr0
                    · exact (fun (h : _) (hr : _) => by exact h) h hr0
                  · have hr := hr.2 hs
                    exact h
                · intro k hk q hq hqt v w w' h hr
                  by_cases hs : k = 12 ∨ k = 15
                  · have hr0 := hr.1 hs
                    rcases hs with rfl | rfl
                    · exact (fun (h : _) (hr : _) => by exact h) h hr0
                    · exact (fun (h : _) (hr : _) => by exact h) h hr0
                  · have hr := hr.2 hs
                    exact h
                · intro k hk q hq hqt v w w' h hr
                  by_cases hs : k = 12 ∨ k = 15
                  · have hr0 := hr.1 hs
                    rcases hs with rfl | rfl
                    · exact (fun (h : _) (hr : _) => by exact h) h hr0
                    · exact (fun (h : _) (hr : _) => by exact h) h hr0
                  · have hr := hr.2 hs
                    exact h
                · intro k hk q hq hqt v w w' h hr
                  by_cases hs : k = 12 ∨ k = 15
                  · have hr0 := hr.1 hs
                    rcases hs with rfl | rfl
                    · exact absurd (hq.trans hqt) (ne_true_of_eq_false (by kernel_rfl))
                    · exact absurd (hq.trans hqt) (ne_true_of_eq_false (by kernel_rfl))
                  · have hr := hr.2 hs
                    exact own_kept h hr.1
                · intro k hk q hq hqt v w w' h hr
                  by_cases hs : k = 12 ∨ k = 15
                  · have hr0 := hr.1 hs
                    rcases hs with rfl | rfl
                    · exact (fun (h : _) (hr : _) => by exact h) h hr0
                    · exact (fun (h : _) (hr : _) => by exact h) h hr0
                  · have hr := hr.2 hs
                    exact h
                · intro k hk q hq hqt v w w' h hr
                  by_cases hs : k = 12 ∨ k = 15
                  · have hr0 := hr.1 hs
                    rcases hs with rfl | rfl
                    · exact (fun (h : _) (hr : _) => by exact h) h hr0
                    · exact (fun (h : _) (hr : _) => by exact h) h hr0
                  · have hr := hr.2 hs
                    exact h
                · intro k hk q hq hqt v w w' h hr
                  by_cases hs : k = 12 ∨ k = 15
                  · have hr0 := hr.1 hs
                    rcases hs with rfl | rfl
                    · exact (fun (h : _) (hr : _) => by exact h) h hr0
                    · exact (fun (h : _) (hr : _) => by exact h) h hr0
                  · have hr := hr.2 hs
                    exact h
                · intro k hk q hq hqt v w w' h hr
                  by_cases hs : k = 12 ∨ k = 15
                  · have hr0 := hr.1 hs
                    rcases hs with rfl | rfl
                    · exact (fun (h : _) (hr : _) => by exact h) h hr0
                    · exact (fun (h : _) (hr : _) => by exact h) h hr0
                  · have hr := hr.2 hs
                    exact h
                · intro k hk q hq hqt v w w' h hr
                  by_cases hs : k = 12 ∨ k = 15
                  · have hr0 := hr.1 hs
                    rcases hs with rfl | rfl
                    · exact absurd (hq.trans hqt) (ne_true_of_eq_false (by kernel_rfl))
                    · exact absurd (hq.trans hqt) (ne_true_of_eq_false (by kernel_rfl))
                  · have hr := hr.2 hs
                    obtain ⟨j, h1, h2, h3⟩ := h; exact ⟨j, h1, Nat.lt_of_lt_of_le h2 hr.1.size, (hr.1.block j h2).trans h3⟩
                · intro k hk q hq hqt v w w' h hr
                  by_cases hs : k = 12 ∨ k = 15
                  · have hr0 := hr.1 hs
                    rcases hs with rfl | rfl
                    · exact absurd (hq.trans hqt) (ne_true_of_eq_false (by kernel_rfl))
                    · exact absurd (hq.trans hqt) (ne_true_of_eq_false (by kernel_rfl))
                  · have hr := hr.2 hs
                    exact own_kept h hr.1
                · intro k hk q hq hqt v w w' h hr
                  by_cases hs : k = 12 ∨ k = 15
                  · have hr0 := hr.1 hs
                    rcases hs with rfl | rfl
                    · exact absurd (hq.trans hqt) (ne_true_of_eq_false (by kernel_rfl))
                    · exact (fun (h : _) (hr : _) => by exact h) h hr0
                  · have hr := hr.2 hs
                    exact h
                · intro k hk q hq hqt v w w' h hr
                  by_cases hs : k = 12 ∨ k = 15
                  · have hr0 := hr.1 hs
                    rcases hs with rfl | rfl
                    · exact absurd (hq.trans hqt) (ne_true_of_eq_false (by kernel_rfl))
                    · exact (fun (h : _) (hr : _) => by exact h) h hr0
                  · have hr := hr.2 hs
                    exact h
                · exact absurd rfl hiz
              · intro i hi
                rcases (by omega : i = 0 ∨ i = 1 ∨ i = 2 ∨ i = 3 ∨ i = 4 ∨ i = 5 ∨ i = 6 ∨ i = 7 ∨ i = 8 ∨ i = 9 ∨ i = 10 ∨ i = 11 ∨ i = 12 ∨ i = 13 ∨ i = 14 ∨ i = 15) with rfl | rfl | rfl | rfl | rfl | rfl | rfl | rfl | rfl | rfl | rfl | rfl | rfl | rfl | rfl | rfl
                · -- 0: Op.move (Operand.tmp 0)
                  intro l hl vs W hS hR hp
                  obtain rfl : l = [] := hl.symm.trans (by kernel_rfl)
                  clear hp hl
                  refine opgoal (_) (some 50) rfl rfl fun K hK => ?_
                  refine Runs.mk ?_
                  simp only [putAll]
                  go_simp
                  refine hK _ _ ?_ (fun _ => hS) ⟨fun h => absurd h (by decide), fun _ => ((fun w => ⟨Below.refl _ _, Below.refl _ _⟩) W)⟩ _ rfl rfl
                  first | rfl | go_simp | simp
                · -- 1: Op.buildSlice 47 0 #[]
                  intro l hl vs W hS hR hp
                  obtain rfl : l = [] := hl.symm.trans (by kernel_rfl)
                  clear hp hl
                  refine opgoal (_) (some 51) rfl rfl fun K hK => ?_
                  refine Runs.mk ?_
                  simp only [putAll]
                  go_simp
                  refine hK _ _ ⟨_, rfl, ?_⟩ (fun _ => below2 hS (below_alloc _ _)) ⟨fun h => absurd h (by decide), fun _ => ⟨below_alloc _ _, (below_alloc _ _).mono hS.size⟩⟩ _ rfl rfl
                  exact World.ownsRow_lit (size := 4) W #[] 0 hS.size (by decide) rfl
                · -- 2: Op.move (Operand.tmp 0)
                  intro l hl vs W hS hR hp
                  obtain rfl : l = [] := hl.symm.trans (by kernel_rfl)
                  clear hp hl
                  refine opgoal (_) (some 52) rfl rfl fun K hK => ?_
                  refine Runs.mk ?_
                  simp only [putAll]
                  go_simp
                  refine hK _ _ ?_ (fun _ => hS) ⟨fun h => absurd h (by decide), fun _ => ((fun w => ⟨Below.refl _ _, Below.refl _ _⟩) W)⟩ _ rfl rfl
                  first | rfl | go_simp | simp
                · -- 3: Op.nilCheck (Operand.tmp 52)
                  intro l hl vs W hS hR hp
                  obtain rfl : l = [(2, 52)] := hl.symm.trans (by kernel_rfl)
                  have p2 : vs 2 = _ := hp 2 (by decide) (by decide)
                  clear hp hl
                  refine opgoal (_) (some 53) rfl rfl fun K hK => ?_
                  refine Runs.mk ?_
                  simp only [putAll]
                  go_simp
                  refine hK _ _ ?_ (fun _ => hS) ⟨fun h => absurd h (by decide), fun _ => ((fun w => ⟨Below.refl _ _, Below.refl _ _⟩) W)⟩ _ rfl rfl
                  first | rfl | go_simp | simp
                · -- 4: Op.fieldAddr 56 (Operand.tmp 53) 1
                  intro l hl vs W hS hR hp
                  obtain rfl : l = [(2, 52), (3, 53)] := hl.symm.trans (by kernel_rfl)
                  have p3 : vs 3 = _ := hp 3 (by decide) (by decide)
                  clear hp hl
                  refine opgoal (_) (some 54) rfl rfl fun K hK => ?_
                  refine Runs.mk ?_
                  simp only [putAll]
                  go_simp
                  refine hK _ _ ?_ (fun _ => hS) ⟨fun h => absurd h (by decide), fun _ => ((fun w => ⟨Below.refl _ _, Below.refl _ _⟩) W)⟩ _ rfl rfl
                  first | rfl | go_simp | simp
                · -- 5: Op.load 47 (Operand.tmp 54)
                  intro l hl vs W hS hR hp
                  obtain rfl : l = [(2, 52), (3, 53), (4, 54)] := hl.symm.trans (by kernel_rfl)
                  have p4 : vs 4 = _ := hp 4 (by decide) (by decide)
                  clear hp hl
                  refine opgoal (_) (some 55) rfl rfl fun K hK => ?_
                  have hb1 : W.cell? ⟨d, 1, none⟩ = some VV := cell_below hS HCL.out
                  rw [hVV.out] at hb1
                  refine Runs.mk ?_
                  simp only [putAll]
                  go_simp
                  refine hK _ _ ?_ (fun _ => hS) ⟨fun h => absurd h (by decide), fun _ => ((fun w => ⟨Below.refl _ _, Below.refl _ _⟩) W)⟩ _ rfl rfl
                  first | rfl | go_simp | simp
                · -- 6: Op.call { callee := Callee.builtin Builtin.append, args := #[Operand.tmp 51, Operand.tmp 55], argTypes := #[47, 47] }
                  intro l hl vs W hS hR hp
                  obtain rfl : l = [(1, 51), (2, 52), (3, 53), (4, 54), (5, 55)] := hl.symm.trans (by kernel_rfl)
                  have p1 : (fun v W => ∃ A0, v = .slice A0 0 0 ∧ W.ownsRow w1.heap.size DPT 4 v 0 []) (vs 1) W := hp 1 (by decide) (by decide)
                  dsimp only at p1
                  have p5 : vs 5 = _ := hp 5 (by decide) (by decide)
                  clear hp hl
                  refine opgoal ({ dst := some 56, op := Op.call { callee := Callee.builtin Builtin.append, args := #[Operand.tmp 51, Operand.tmp 55], argTypes := #[47, 47] }, type := 47, pos := "ref.go:47", after := #[{ on := 1, ground := Ground.data }, { on := 5, ground := Ground.data }], guard := none }) (some 56) rfl rfl fun K hK => ?_
                  obtain ⟨A0, q1, o1⟩ := p1
                  rw [q1] at o1
                  refine runs_append_fresh W (wanted_none rfl) (.tmp 51) (.tmp 55) w1.heap.size 47 DPT (.agg #[.int .i64 0, .int .i64 0, .string ⟨#[]⟩, .bool false]) 4 40 rfl (by kernel_rfl) (by kernel_rfl) rfl (by decide) (by decide) A0 (by simp [putAll, Act.put, Act.eval, q1]) o1 (AL) (nL) (cL) (by simp [putAll, Act.put, Act.eval, p5]) (HAL.out) (FL) (HFL.out) (HLL.out W hS) (HOL.out) (by have := hn9.out; omega) hS.size ?_
                  intro v' w' h1 h2
                  exact hK _ _ h1 (fun _ => below2 hS h2) ⟨fun h => absurd h (by decide), fun _ => ⟨h2, h2.mono hS.size⟩⟩ _ put_dfs (put_slot (by simp))
                · -- 7: Op.move (Operand.tmp 1)
                  intro l hl vs W hS hR hp
                  obtain rfl : l = [] := hl.symm.trans (by kernel_rfl)
                  clear hp hl
                  refine opgoal (_) (some 57) rfl rfl fun K hK => ?_
                  refine Runs.mk ?_
                  simp only [putAll]
                  go_simp
                  refine hK _ _ ?_ (fun _ => hS) ⟨fun h => absurd h (by decide), fun _ => ((fun w => ⟨Below.refl _ _, Below.refl _ _⟩) W)⟩ _ rfl rfl
                  first | rfl | go_simp | simp
                · -- 8: Op.move (Operand.tmp 6)
                  intro l hl vs W hS hR hp
                  obtain rfl : l = [] := hl.symm.trans (by kernel_rfl)
                  clear hp hl
                  refine opgoal (_) (some 58) rfl rfl fun K hK => ?_
                  refine Runs.mk ?_
                  simp only [putAll]
                  go_simp
                  refine hK _ _ ?_ (fun _ => hS) ⟨fun h => absurd h (by decide), fun _ => ((fun w => ⟨Below.refl _ _, Below.refl _ _⟩) W)⟩ _ rfl rfl
                  first | rfl | go_simp | simp
                · -- 9: Op.indexAddr 47 (Operand.tmp 57) (Operand.tmp 58)
                  intro l hl vs W hS hR hp
                  obtain rfl : l = [(7, 57), (8, 58)] := hl.symm.trans (by kernel_rfl)
                  have p7 : vs 7 = _ := hp 7 (by decide) (by decide)
                  have p8 : vs 8 = _ := hp 8 (by decide) (by decide)
                  clear hp hl
                  refine opgoal (_) (some 59) rfl rfl fun K hK => ?_
                  have hlt' := HLT.out
                  refine Runs.mk ?_
                  simp only [putAll]
                  go_simp
                  refine hK _ _ ?_ (fun _ => hS) ⟨fun h => absurd h (by decide), fun _ => ((fun w => ⟨Below.refl _ _, Below.refl _ _⟩) W)⟩ _ rfl rfl
                  first | rfl | go_simp | simp
                · -- 10: Op.load 49 (Operand.tmp 59)
                  intro l hl vs W hS hR hp
                  obtain rfl : l = [(7, 57), (8, 58), (9, 59)] := hl.symm.trans (by kernel_rfl)
                  have p9 : vs 9 = _ := hp 9 (by decide) (by decide)
                  clear hp hl
                  refine opgoal (_) (some 60) rfl rfl fun K hK => ?_
                  obtain ⟨c0, c1, c2, c3⟩ := HEL.out W hS
                  refine Runs.mk ?_
                  simp only [putAll]
                  go_simp
                  refine hK _ _ ?_ (fun _ => hS) ⟨fun h => absurd h (by decide), fun _ => ((fun w => ⟨Below.refl _ _, Below.refl _ _⟩) W)⟩ _ rfl rfl
                  first | rfl | go_simp | simp
                · -- 11: Op.buildSlice 47 1 #[(0, Operand.tmp 60)]
                  intro l hl vs W hS hR hp
                  obtain rfl : l = [(7, 57), (8, 58), (9, 59), (10, 60)] := hl.symm.trans (by kernel_rfl)
                  have p10 : vs 10 = _ := hp 10 (by decide) (by decide)
                  clear hp hl
                  refine opgoal (_) (some 61) rfl rfl fun K hK => ?_
                  refine Runs.mk ?_
                  simp only [putAll]
                  go_simp
                  have hb := below_alloc W (.cells #[.int .i64 px, .int .i64 py, .string pS, .bool pq] DPT)
                  exact hK _ _ ⟨W.heap.size, rfl, by simp, heap_alloc_new _ _⟩ (fun _ => below2 hS hb) ⟨fun h => absurd h (by decide), fun _ => ⟨hb, hb.mono hS.size⟩⟩ _ rfl rfl
                · -- 12: Op.call { callee := Callee.builtin Builtin.append, args := #[Operand.tmp 56, Operand.tmp 61], argTypes := #[47, 47] }
                  intro l hl vs W hS hR hp
                  obtain rfl : l = [(1, 51), (2, 52), (3, 53), (4, 54), (5, 55), (6, 56), (7, 57), (8, 58), (9, 59), (10, 60), (11, 61)] := hl.symm.trans (by kernel_rfl)
                  have p6 : (fun v W => W.ownsRow w1.heap.size DPT 4 v (nL) (FL)) (vs 6) W := hp 6 (by decide) (by decide)
                  dsimp only at p6
                  have p11 : (fun v W => ∃ j, v = .slice (some ⟨j, 0, none⟩) 1 1 ∧ j < W.heap.size ∧ W.heap[j]? = some (.cells #[.int .i64 px, .int .i64 py, .string pS, .bool pq] DPT (0, 0))) (vs 11) W := hp 11 (by decide) (by decide)
                  dsimp only at p11
                  clear hp hl
                  obtain ⟨j, q11, l11, b11⟩ := p11
                  refine opgoal ({ dst := some 62, op := Op.call { callee := Callee.builtin Builtin.append, args := #[Operand.tmp 56, Operand.tmp 61], argTypes := #[47, 47] }, type := 47, pos := "ref.go:47", after := #[{ on := 6, ground := Ground.data }, { on := 11, ground := Ground.data }, { on := 6, ground := Ground.chain }], guard := none }) (some 62) rfl rfl fun K hK => ?_
                  refine runs_append_src W (wanted_none rfl) (.tmp 56) (.tmp 61) w1.heap.size 47 DPT (.agg #[.int .i64 0, .int .i64 0, .string ⟨#[]⟩, .bool false]) 4 40 rfl (by kernel_rfl) (by kernel_rfl) rfl (by decide) (by decide) (vs 6) (nL) (FL) (by simp [putAll, Act.put, Act.eval]) p6 (some ⟨j, 0, none⟩) (1) (1) (by simp [putAll, Act.put, Act.eval, q11]) (fun h => by cases h) (NW) (HNW.out.1) (by rw [HNW.out.2]; exact lies_block b11) (by rw [HNW.out.2]; simp [Value.oneCell']) (by have := hn9.out; omega) hS.size ?_
                  intro v' w' h1 h2 h3
                  have hbl := below_of_grown h2 hS.size (fun k hk => (own_lt p6 k hk).1)
                  exact hK _ _ h1 (fun _ => hS.trans hbl) ⟨fun _ => Lo.of hbl, fun h => absurd (by decide) h⟩ _ put_dfs (put_slot (by simp))
                · -- 13: Op.nilCheck (Operand.tmp 50)
                  intro l hl vs W hS hR hp
                  obtain rfl : l = [(0, 50), (1, 51), (2, 52), (3, 53), (4, 54), (5, 55), (6, 56), (7, 57), (8, 58), (9, 59), (10, 60), (11, 61), (12, 62)] := hl.symm.trans (by kernel_rfl)
                  have p0 : vs 0 = _ := hp 0 (by decide) (by decide)
                  clear hp hl
                  refine opgoal (_) (some 63) rfl rfl fun K hK => ?_
                  refine Runs.mk ?_
                  simp only [putAll]
                  go_simp
                  refine hK _ _ ?_ (fun _ => hS) ⟨fun h => absurd h (by decide), fun _ => ((fun w => ⟨Below.refl _ _, Below.refl _ _⟩) W)⟩ _ rfl rfl
                  first | rfl | go_simp | simp
                · -- 14: Op.fieldAddr 56 (Operand.tmp 63) 1
                  intro l hl vs W hS hR hp
                  obtain rfl : l = [(0, 50), (1, 51), (2, 52), (3, 53), (4, 54), (5, 55), (6, 56), (7, 57), (8, 58), (9, 59), (10, 60), (11, 61), (12, 62), (13, 63)] := hl.symm.trans (by kernel_rfl)
                  have p13 : vs 13 = _ := hp 13 (by decide) (by decide)
                  clear hp hl
                  refine opgoal (_) (some 64) rfl rfl fun K hK => ?_
                  refine Runs.mk ?_
                  simp only [putAll]
                  go_simp
                  refine hK _ _ ?_ (fun _ => hS) ⟨fun h => absurd h (by decide), fun _ => ((fun w => ⟨Below.refl _ _, Below.refl _ _⟩) W)⟩ _ rfl rfl
                  first | rfl | go_simp | simp
                · -- 15: Op.store 47 (Operand.tmp 64) (Operand.tmp 62)
                  intro l hl vs W hS hR hp
                  obtain rfl : l = [(0, 50), (1, 51), (2, 52), (3, 53), (4, 54), (5, 55), (6, 56), (7, 57), (8, 58), (9, 59), (10, 60), (11, 61), (12, 62), (13, 63), (14, 64)] := hl.symm.trans (by kernel_rfl)
                  have p12 : (fun v W => W.ownsRow w1.heap.size DPT 4 v (nL + 1) (FL ++ NW)) (vs 12) W := hp 12 (by decide) (by decide)
                  dsimp only at p12
                  have p14 : vs 14 = _ := hp 14 (by decide) (by decide)
                  clear hp hl
                  refine opgoal (_) (none) rfl rfl fun K hK => ?_
                  obtain ⟨A', c', q12⟩ := own_form4 p12
                  rw [q12] at p12
                  have hb1 : W.cell? ⟨d, 1, none⟩ = some VV := cell_below hS HCL.out
                  have hf1 : W.frozen? ⟨d, 1, none⟩ = false := (HD.out.below hS).cell.2.2.2.1
                  refine Runs.mk ?_
                  simp only [putAll]
                  go_simp
                  refine hK undef _ ?_ (fun h => absurd rfl h) ⟨fun _ => Lo.set _ _ _ _ _, fun h => absurd (by decide) h⟩ _ rfl rfl
                  exact dd_fin HD.out hS p12 HE1.out.1 HE1.out.2
              · intro l hl vs W hR hp
                obtain rfl : l = [(0, 50), (1, 51), (2, 52), (3, 53), (4, 54), (5, 55), (6, 56), (7, 57), (8, 58), (9, 59), (10, 60), (11, 61), (12, 62), (13, 63), (14, 64)] := hl.symm.trans (by kernel_rfl)
                have p0 : vs 0 = _ := hp 0 (by decide) (by decide)
                have p2 : vs 2 = _ := hp 2 (by decide) (by decide)
                have p3 : vs 3 = _ := hp 3 (by decide) (by decide)
                have p4 : vs 4 = _ := hp 4 (by decide) (by decide)
                have p5 : vs 5 = _ := hp 5 (by decide) (by decide)
                have p7 : vs 7 = _ := hp 7 (by decide) (by decide)
                have p8 : vs 8 = _ := hp 8 (by decide) (by decide)
                have p9 : vs 9 = _ := hp 9 (by decide) (by decide)
                have p10 : vs 10 = _ := hp 10 (by decide) (by decide)
                have p13 : vs 13 = _ := hp 13 (by decide) (by decide)
                have p14 : vs 14 = _ := hp 14 (by decide) (by decide)
                have p15 : (fun v W => ∃ v', Dd W d nodes v' L1 vCk cs ∧ ∀ k, v'.ownBlock = some k → w1.heap.size ≤ k) (vs 15) W := hp 15 (by decide) (by decide)
                dsimp only at p15
                clear hp hl
                simp only [putAll_mk, setAll, List.setIfInBounds_toArray, List.set_cons_succ, List.set_cons_zero, p0, p2, p3, p4, p5, p7, p8, p9, p10, p13, p14]
                have HE := Lib.hid p15
                have HR := Lib.hid hR
                clear p15 hR
                obtain ⟨vLx, vCx, hDx, hkx, hlx, hcx⟩ := HFIN.out _ HE.out HR.out
                have HX := Lib.hid (HREL.out W vLx vCx hDx hkx hlx hcx)
                clear hDx hkx hlx hcx
                go_wp2
                go_roundw
                case rel => exact ⟨kk + 1, m, L1, vLx, vCx, by omega, by omega, by go_num, by go_num, HX.out⟩
                case measure => simp [intOf]; omega
    · obtain rfl : kk = N := by omega
      have hF' := hF.out
      rw [List.drop_eq_nil_of_le (by have := HL.out; omega)] at hF'
      simp only [sendL, Nat.add_zero] at hF'
      obtain ⟨rfl, rfl⟩ := hF'
      have HZ : Hid (GD d nodes vL vC Lk cs w wr) := Lib.hid ⟨vLk, vCk, hdd, hgk.keep, hgk.l, hgk.c⟩
      clear hdd hgk hF
      go_wp2
      go_ret
      exact ⟨rfl, HZ.out⟩
end Go.Proofs.Ytbdcgfdchkbcnaa.Ne

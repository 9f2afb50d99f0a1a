/- SpanTrees: the walk. -/
import Derived.Test.YtbdcgfdchkbcnaaSpP
namespace Go.Proofs.Ytbdcgfdchkbcnaa.Sp
open Go.RowKit Go.Proofs.Ytbdcgfdchkbcnaa.L Go.Proofs.Ytbdcgfdchkbcnaa.A Go.Proofs.Ytbdcgfdchkbcnaa.R Go.Proofs.Ytbdcgfdchkbcnaa.T Go.Proofs.Ytbdcgfdchkbcnaa.F Go.Proofs.Ytbdcgfdchkbcnaa.S
set_option linter.unusedVariables false
set_option linter.unusedSimpArgs false

theorem own_grown {w w' : World} {B : Nat} {e : TypeId} {size n : Nat} {v : Value} {xs : List Value} {row : Option Nat} (h : w.ownsRow B e size v n xs) (hg : w.grownBy w' row) (hne : ∀ k, v.ownBlock = some k → row ≠ some k) : w'.ownsRow B e size v n xs :=
  h.kept hg (by cases hv : v.ownBlock with
    | none => exact .inl rfl
    | some k => exact .inr fun e => hne k hv e.symm)
/-- one row grows, the other stays. -/
theorem other_row {wr w2 : World} {B : Nat} {e e' : TypeId} {s s' q q' : Nat} {v5 v6 v6' : Value} {xs ys : List Value} {o : Obj} (h5 : wr.ownsRow B e s v5 q xs) (h6 : wr.ownsRow B e' s' v6 q' ys) (ne : ∀ k, v5.ownBlock = some k → v6.ownBlock ≠ some k)
    (hg : (wr.alloc o).grownBy w2 v6.ownBlock) (hv : v6'.ownBlock = v6.ownBlock ∨ v6'.ownBlock = some (wr.alloc o).heap.size) : w2.ownsRow B e s v5 q xs ∧ ∀ k, v5.ownBlock = some k → v6'.ownBlock ≠ some k := by
  refine ⟨own_grown (h5.alloc o) hg ne, fun k hk e1 => ?_⟩
  rcases hv with h | h
  · exact ne k hk (h.symm.trans e1)
  · rw [h] at e1
    have := (h5.lt k hk).2
    simp at e1
    omega
theorem ne_symm' {v5 v6 : Value} (h : ∀ k, v5.ownBlock = some k → v6.ownBlock ≠ some k) : ∀ k, v6.ownBlock = some k → v5.ownBlock ≠ some k := fun k h1 h2 => h k h2 h1
theorem M16_len : M16.length = 16 := by decide
theorem M16_at (k : Nat) (h : k < 16) : M16[k]'(by rw [M16_len]; exact h) = (k : Int) + 1 := by simp [M16]
theorem M16_take (k : Nat) (h : k < 16) : M16.take (k + 1) = M16.take k ++ [(k : Int) + 1] := by rw [List.take_succ_eq_append_getElem (by rw [M16_len]; exact h), M16_at k h]
def alK (n t : Int) (k : Nat) : List Int := (M16.take k).filter fun m => edgeB n m t
def chK (n t : Int) (k : Nat) : List Int := (M16.take k).filter fun m => edgeB n m t && decide (n < m)
theorem alK_succ (n t : Int) (k : Nat) (h : k < 16) (r : Bool) (hr : edgeB n ((k : Int) + 1) t = r) : alK n t (k + 1) = if r then alK n t k ++ [(k : Int) + 1] else alK n t k := by
  unfold alK; rw [M16_take k h, List.filter_append]; cases r <;> simp [hr]
theorem chK_succ (n t : Int) (k : Nat) (h : k < 16) (r : Bool) (hr : (edgeB n ((k : Int) + 1) t && decide (n < (k : Int) + 1)) = r) : chK n t (k + 1) = if r then chK n t k ++ [(k : Int) + 1] else chK n t k := by
  unfold chK; rw [M16_take k h, List.filter_append]; cases r <;> simp [List.filter_cons, hr]
set_option maxHeartbeats 8000000 in
set_option maxRecDepth 100000 in
theorem trees_walk (w : World) (n t : Int) (hn : -9223372036854775808 ≤ n ∧ n ≤ 9223372036854775807) (ht : -9223372036854775808 ≤ t ∧ t ≤ 9223372036854775807) :
    Calls Try.prog 9 #[.int .i64 n, .int .i64 t] w fun e w' => e = .returned (.bool true) ∧ Below w.heap.size w w' := by
  have HT := Lib.hid ht
  have HNb := Lib.hid hn
  obtain ⟨hch, hal⟩ := tree_eq n t
  have HCH := Lib.hid hch
  have HAL := Lib.hid hal
  clear hch hal ht
  go_enter Try.func9, Try.ntmps9
  go_wp2_with fail
  refine (awake_any w).mono ?_
  rintro e w1 ⟨rfl, hb1⟩
  go_wp2_with fail
  go_loopg [5, 6, 7] 16 (fun gk v5 v6 i wr => ∃ k q5 q6 : Nat, gk = 16 - k ∧ k ≤ 16 ∧ q5 ≤ k ∧ q6 ≤ k ∧ i = .int .i64 ((k : Int) + 1) ∧ wr.ownsRow w1.heap.size 3 1 v5 q5 (ints (chK n t k)) ∧ wr.ownsRow w1.heap.size 3 1 v6 q6 (ints (alK n t k)) ∧ Below w1.heap.size w1 wr ∧ Hid ((∀ b, v5.ownBlock = some b → v6.ownBlock ≠ some b) ∧ (chK n t k).length = q5 ∧ (alK n t k).length = q6))
  case atStart => exact ⟨0, 0, 0, by omega, by omega, by omega, by omega, rfl, World.ownsRow_nil _ _ _ _, World.ownsRow_nil _ _ _ _, Below.refl _ _, Lib.hid ⟨(by simp [Value.ownBlock]), rfl, rfl⟩⟩
  case round =>
    obtain ⟨k, q5, q6, rfl, hk, hq5, hq6, rfl, h5, h6, hb, hE⟩ := hrel
    by_cases hlt : k < 16
    · have H5 := Lib.hid h5
      have H6 := Lib.hid h6
      have HB := Lib.hid hb
      obtain ⟨E, hEd⟩ : ∃ E, Hid (edgeB n ((k : Int) + 1) t = E) := ⟨_, Lib.hid rfl⟩
      have hA := Lib.hid (alK_succ n t k hlt _ rfl)
      have hC := Lib.hid (chK_succ n t k hlt _ rfl)
      rw [hEd.out] at hA hC
      have hbs : w1.heap.size ≤ (wr.alloc (.cells #[.int .i64 ((k : Int) + 1)] 3)).heap.size := by have := hb.size; simp; omega
      clear hb
      cases E
      · have hA2 : Hid (alK n t (k + 1) = alK n t k) := Lib.hid (by rw [hA.out]; rfl)
        have hC2 : Hid (chK n t (k + 1) = chK n t k) := Lib.hid (by rw [hC.out]; simp)
        clear h5 h6
        go_wp2_with fail
        refine (edge_any n ((k : Int) + 1) t _ HNb.out (by omega) false hEd.out).mono ?_
        rintro e w2 ⟨rfl, rfl⟩
        go_wp2
        go_roundg (16 - (k + 1))
        case measure => omega
        case rel => exact ⟨k + 1, q5, q6, rfl, by omega, by omega, by omega, by go_num, by rw [hC2.out]; exact H5.out, by rw [hA2.out]; exact H6.out, HB.out, Lib.hid (by rw [hA2.out, hC2.out]; exact hE.out)⟩
      · have hA2 : Hid (alK n t (k + 1) = alK n t k ++ [(k : Int) + 1]) := Lib.hid (by rw [hA.out]; rfl)
        by_cases hnm : n < (k : Int) + 1
        · have hC2 : Hid (chK n t (k + 1) = chK n t k ++ [(k : Int) + 1]) := Lib.hid (by rw [hC.out]; simp [hnm])
          go_wp2_with fail
          refine (edge_any n ((k : Int) + 1) t _ HNb.out (by omega) true hEd.out).mono ?_
          rintro e w2 ⟨rfl, rfl⟩
          go_wp2_with (first | (at_builtin; refine wpList_append_src _ rfl (.tmp 21) (.tmp 23) w1.heap.size 62 3 (.int .i64 0) 1 8 rfl (by kernel_rfl) (by kernel_rfl) rfl (by decide) (by decide) _ q6 _ rfl (h6.alloc _) (some ⟨wr.heap.size, 0, none⟩) 1 1 rfl (fun h => by cases h) [.int .i64 ((k : Int) + 1)] rfl (lies_block (heap_alloc_new _ _)) (by simp [Value.oneCell']) (by omega) hbs ?_; intro v6' w2 ho1 hg1 hv1; have HOR := Lib.hid (other_row H5.out H6.out hE.out.1 hg1 hv1); have HO1 := Lib.hid ho1; have hb2 := below_app H6.out HB.out.size hg1; have HB2 := Lib.hid (HB.out.trans hb2); have h5' := HOR.out.1; have hbs2 : w1.heap.size ≤ (w2.alloc (.cells #[.int .i64 ((k : Int) + 1)] 3)).heap.size := (by have := HB2.out.size; simp; omega); clear ho1 hg1 hv1 h6 h5 hb2) | (at_builtin; refine wpList_append_src _ rfl (.tmp 28) (.tmp 30) w1.heap.size 62 3 (.int .i64 0) 1 8 rfl (by kernel_rfl) (by kernel_rfl) rfl (by decide) (by decide) _ q5 _ rfl (h5'.alloc _) (some ⟨w2.heap.size, 0, none⟩) 1 1 rfl (fun h => by cases h) [.int .i64 ((k : Int) + 1)] rfl (lies_block (heap_alloc_new _ _)) (by simp [Value.oneCell']) (by omega) hbs2 ?_; intro v5' w3 ho2 hg2 hv2))
          have hOR2 := other_row HO1.out HOR.out.1 (ne_symm' HOR.out.2) hg2 hv2
          have hb3 := below_app HOR.out.1 HB2.out.size hg2
          go_roundg (16 - (k + 1))
          case measure => omega
          case rel => exact ⟨k + 1, q5 + 1, q6 + 1, rfl, by omega, by omega, by omega, by go_num, by rw [hC2.out]; simpa [ints] using ho2, by rw [hA2.out]; simpa [ints] using hOR2.1, HB2.out.trans hb3, Lib.hid ⟨ne_symm' hOR2.2, by rw [hC2.out, List.length_append, hE.out.2.1]; rfl, by rw [hA2.out, List.length_append, hE.out.2.2]; rfl⟩⟩
        · have hC2 : Hid (chK n t (k + 1) = chK n t k) := Lib.hid (by rw [hC.out]; simp [hnm])
          go_wp2_with fail
          refine (edge_any n ((k : Int) + 1) t _ HNb.out (by omega) true hEd.out).mono ?_
          rintro e w2 ⟨rfl, rfl⟩
          go_wp2_with (at_builtin; refine wpList_append_src _ rfl (.tmp 21) (.tmp 23) w1.heap.size 62 3 (.int .i64 0) 1 8 rfl (by kernel_rfl) (by kernel_rfl) rfl (by decide) (by decide) _ q6 _ rfl (h6.alloc _) (some ⟨wr.heap.size, 0, none⟩) 1 1 rfl (fun h => by cases h) [.int .i64 ((k : Int) + 1)] rfl (lies_block (heap_alloc_new _ _)) (by simp [Value.oneCell']) (by omega) hbs ?_; intro v6' w2 ho1 hg1 hv1)
          have hOR := other_row H5.out H6.out hE.out.1 hg1 hv1
          have hb2 := HB.out.trans (below_app H6.out HB.out.size hg1)
          go_roundg (16 - (k + 1))
          case measure => omega
          case rel => exact ⟨k + 1, q5, q6 + 1, rfl, by omega, by omega, by omega, by go_num, by rw [hC2.out]; exact hOR.1, by rw [hA2.out]; simpa [ints] using ho1, hb2, Lib.hid ⟨hOR.2, by rw [hC2.out]; exact hE.out.2.1, by rw [hA2.out, List.length_append, hE.out.2.2]; rfl⟩⟩
    · have hke : k = 16 := by omega
      subst hke
      have hC3 : Hid (chK n t 16 = childL n t) := Lib.hid HCH.out.symm
      have hA3 : Hid (alK n t 16 = neighL n t) := Lib.hid HAL.out.symm
      obtain ⟨C, hC⟩ : ∃ C, Hid (childL n t = C) := ⟨_, Lib.hid rfl⟩
      obtain ⟨Nb, hNb⟩ : ∃ C, Hid (neighL n t = C) := ⟨_, Lib.hid rfl⟩
      rw [hC3.out, hC.out] at h5 hE
      rw [hA3.out, hNb.out] at h6 hE
      obtain ⟨A5, c5, rfl, r5, _⟩ := own_rd h5
      obtain ⟨A6, c6, rfl, r6, _⟩ := own_rd h6
      have R5 := Lib.hid r5
      have R6 := Lib.hid r6
      have HB := Lib.hid (below2 hb1 hb)
      obtain ⟨D, hD⟩ : ∃ D, Hid (depI n = D) := ⟨_, Lib.hid rfl⟩
      obtain ⟨p, hp⟩ : ∃ p, Hid (parI n = p) := ⟨_, Lib.hid rfl⟩
      have HPa := Lib.hid fun w1 => parent_any n w1 HNb.out
      have HDe := Lib.hid fun w1 => depth_any n w1 HNb.out
      have HCn := Lib.hid fun w1 => children_any n t w1 HNb.out
      have HNe := Lib.hid fun w1 => neighbours_any n t w1 HNb.out
      have HFa := Lib.hid fun w1 => far_any t w1 HT.out
      have HRf := Lib.hid fun w1 => rfar_any t w1 HT.out
      obtain ⟨F, hF⟩ : ∃ F, Hid (farI t = F) := ⟨_, Lib.hid rfl⟩
      rw [hp.out] at HPa
      rw [hD.out] at HDe
      rw [hC.out] at HCn
      rw [hNb.out] at HNe
      rw [hF.out] at HFa HRf
      have hsC : Hid ((C == C) = true) := Lib.hid (by simp)
      have hsN : Hid ((Nb == Nb) = true) := Lib.hid (by simp)
      clear h5 h6 r5 r6 hk hq5 hq6 hb
      by_cases hpos : 0 < n
      · have hpn : Hid (n / 2 = p) := Lib.hid (by rw [← hp.out]; unfold parI; rw [if_neg (by omega)])
        have hlen : Hid ((upI n).length ≤ 63) := Lib.hid (upI_len 63 n (by omega))
        have hDn : Hid (D + 1 = ((upI n).length : Int)) := Lib.hid (by
          rw [← hD.out]
          unfold depI
          rw [upI_pos hpos]
          simp)
        go_wp2_with fail
        rw [hpn.out]
        go_loopg [9, 10] n.toNat (fun gk dv i wx => ∃ (m : Int) (d : Nat), gk = m.toNat ∧ 1 ≤ m ∧ m ≤ n ∧ d ≤ 63 ∧ i = .int .i64 m ∧ dv = .int .i64 d ∧ wr = wx ∧ Hid (d + (upI m).length = (upI n).length))
        case atStart => exact ⟨n, 0, rfl, by omega, by omega, by omega, rfl, rfl, rfl, Lib.hid (by omega)⟩
        case round =>
          obtain ⟨m, d, rfl, hm1, hmn, hd, rfl, rfl, rfl, hdu⟩ := hrel
          by_cases hm : 1 < m
          · have hu : Hid (d + 1 + (upI (m / 2)).length = (upI n).length) := Lib.hid (by
              have := hdu.out
              rw [upI_pos (show 0 < m by omega)] at this
              have e : parI m = m / 2 := by unfold parI; rw [if_neg (by omega)]
              rw [e] at this
              simp at this
              omega)
            have hd2 : d + 1 ≤ 63 := by have h1 := hu.out; have h2 := hlen.out; have h3 : 0 < (upI (m / 2)).length := (by rw [upI_pos (by omega)]; simp); omega
            go_wp2
            go_roundg (m / 2).toNat
            case measure => omega
            case rel => exact ⟨m / 2, d + 1, rfl, by omega, by omega, hd2, rfl, by go_num, rfl, hu⟩
          · have hme : m = 1 := by omega
            have hDd : Hid ((d : Int) = D) := Lib.hid (by
              have h1 := hdu.out
              have h2 := hDn.out
              rw [hme, upI_pos (by omega)] at h1
              rw [show parI 1 = 0 from by decide, upI_neg (by omega)] at h1
              simp at h1
              omega)
            clear hme
            go_wp2_with fail
            refine (HPa.out _).mono ?_
            rintro e x1 ⟨rfl, rfl⟩
            go_wp2_with fail
            refine (HDe.out _).mono ?_
            rintro e x2 ⟨rfl, hy2⟩
            rw [hDd.out]
            go_wp2_with fail
            refine (HCn.out _).mono ?_
            intro e x3 hG
            obtain ⟨A7, c7, rfl, r7, _, _, hy3⟩ := hG.rd
            rw [hE.out.2.1] at r7 ⊢
            clear hG
            go_wp2_with fail
            refine (same_any A7 A5 q5 c7 q5 c5 C C _ r7 ((R5.out.below hy2).below hy3) true hsC.out).mono ?_
            rintro e x4 ⟨rfl, hy4⟩
            clear r7
            go_wp2_with fail
            refine (HNe.out _).mono ?_
            intro e x5 hG
            obtain ⟨A8, c8, rfl, r8, _, _, hy5⟩ := hG.rd
            rw [hE.out.2.2] at r8 ⊢
            clear hG
            have hy25 := below2 (below2 hy2 hy3) (below2 hy4 hy5)
            go_wp2_with fail
            refine (same_any A8 A6 q6 c8 q6 c6 Nb Nb _ r8 (R6.out.below hy25) true hsN.out).mono ?_
            rintro e x6 ⟨rfl, hy6⟩
            clear r8
            go_wp2_with fail
            refine (HFa.out _).mono ?_
            rintro e x7 ⟨rfl, hy7⟩
            go_wp2_with fail
            refine (HRf.out _).mono ?_
            rintro e x8 ⟨rfl, hy8⟩
            go_wp2
            go_ret
            exact ⟨rfl, below2 HB.out (below2 hy25 (below2 hy6 (below2 hy7 hy8)))⟩
      · have hp0 : Hid (p = 0) := Lib.hid (by rw [← hp.out]; unfold parI; rw [if_pos (by omega)])
        have hD0 : Hid (D = 0) := Lib.hid (by rw [← hD.out]; unfold depI; rw [upI_neg (by omega)]; rfl)
        rw [hp0.out] at HPa
        rw [hD0.out] at HDe
        go_wp2_with fail
        refine (HPa.out _).mono ?_
        rintro e x1 ⟨rfl, rfl⟩
        go_wp2_with fail
        refine (HDe.out _).mono ?_
        rintro e x2 ⟨rfl, hy2⟩
        go_wp2_with fail
        refine (HCn.out _).mono ?_
        intro e x3 hG
        obtain ⟨A7, c7, rfl, r7, _, _, hy3⟩ := hG.rd
        rw [hE.out.2.1] at r7 ⊢
        clear hG
        go_wp2_with fail
        refine (same_any A7 A5 q5 c7 q5 c5 C C _ r7 ((R5.out.below hy2).below hy3) true hsC.out).mono ?_
        rintro e x4 ⟨rfl, hy4⟩
        clear r7
        go_wp2_with fail
        refine (HNe.out _).mono ?_
        intro e x5 hG
        obtain ⟨A8, c8, rfl, r8, _, _, hy5⟩ := hG.rd
        rw [hE.out.2.2] at r8 ⊢
        clear hG
        have hy25 := below2 (below2 hy2 hy3) (below2 hy4 hy5)
        go_wp2_with fail
        refine (same_any A8 A6 q6 c8 q6 c6 Nb Nb _ r8 (R6.out.below hy25) true hsN.out).mono ?_
        rintro e x6 ⟨rfl, hy6⟩
        clear r8
        go_wp2_with fail
        refine (HFa.out _).mono ?_
        rintro e x7 ⟨rfl, hy7⟩
        go_wp2_with fail
        refine (HRf.out _).mono ?_
        rintro e x8 ⟨rfl, hy8⟩
        go_wp2
        go_ret
        exact ⟨rfl, below2 HB.out (below2 hy25 (below2 hy6 (below2 hy7 hy8)))⟩
theorem trees_row (w : World) (a b : Int) (ha : (Lit.int .i64 a).wf = true) (hb : (Lit.int .i64 b).wf = true) :
    Calls Try.prog 9 #[.int .i64 a, .int .i64 b] w fun e w' => e = .returned (.bool true) ∧ Below w.heap.size w w' := trees_walk w a b (bounds_i64 ha) (bounds_i64 hb)
end Go.Proofs.Ytbdcgfdchkbcnaa.Sp

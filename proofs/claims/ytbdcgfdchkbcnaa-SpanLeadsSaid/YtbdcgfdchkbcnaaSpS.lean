/- SpanLeads: the walk. -/
import Derived.Test.YtbdcgfdchkbcnaaSpR
import Derived.Test.YtbdcgfdchkbcnaaSpE
import Derived.Test.YtbdcgfdchkbcnaaK
namespace Go.Proofs.Ytbdcgfdchkbcnaa.Sp
open Go.RowKit Go.Proofs.Ytbdcgfdchkbcnaa.L Go.Proofs.Ytbdcgfdchkbcnaa.A Go.Proofs.Ytbdcgfdchkbcnaa.R Go.Proofs.Ytbdcgfdchkbcnaa.T Go.Proofs.Ytbdcgfdchkbcnaa.F Go.Proofs.Ytbdcgfdchkbcnaa.S Go.Proofs.Ytbdcgfdchkbcnaa.K
set_option linter.unusedVariables false
set_option linter.unusedSimpArgs false

theorem set_grown {w w1 : World} {b : Nat} (h : w.grownBy w1 (some b)) {B : Nat} (hB : B ≤ w.heap.size) (hb : B ≤ b) : Below B w w1 := below_of_grown h hB fun k hk => by cases hk; exact hb
theorem i64_wf {n : Int} (h : -9223372036854775808 ≤ n ∧ n ≤ 9223372036854775807) : (Lit.int .i64 n).wf = true := by
  simp [Lit.wf, IntKind.min, IntKind.max, IntKind.signed, IntKind.bits]
  omega
theorem lead_rng {t b : Nat} {x : Int} {l : List Int} (h : leadB t (b : Int) (x :: l) = true) (hb : 1 ≤ b ∧ b ≤ t) : 1 ≤ x ∧ x ≤ (t : Int) := by
  cases l with
  | nil =>
    have : x = (b : Int) := by simpa [leadB] using h
    omega
  | cons y l => exact (lead_cons h).2.1
theorem neigh_len (n t : Int) : (neighL n t).length ≤ 3 := by
  have hc : (childL n t).length ≤ 2 := by
    unfold childL
    split
    · exact List.length_filter_le _ _
    · simp
  unfold neighL
  split
  · simp; omega
  · omega
set_option maxHeartbeats 8000000 in
set_option maxRecDepth 100000 in
theorem leads_walk (w : World) (f t m : Nat) (hf : f < 256) (ht : t < 256) (hm : m < 256) : Calls Try.prog 10 #[.int .u8 f, .int .u8 t, .int .u8 m] w fun e w' => e = .returned (.bool true) ∧ Below w.heap.size w w' := by
  obtain ⟨n, hn⟩ : ∃ n : Nat, Hid (1 + (m : Int) % 16 = (n : Int)) := ⟨1 + m % 16, Lib.hid (by omega)⟩
  have hn1 : 1 ≤ n := by have := hn.out; omega
  have hn2 : n ≤ 16 := by have := hn.out; omega
  obtain ⟨ha1, ha2⟩ := one_mod f n hn1
  obtain ⟨hb1, hb2⟩ := one_mod t n hn1
  obtain ⟨a, ha⟩ : ∃ a : Nat, Hid (1 + (f : Int) % (n : Int) = (a : Int)) := ⟨1 + f % n, Lib.hid (by omega)⟩
  obtain ⟨b, hb⟩ : ∃ b : Nat, Hid (1 + (t : Int) % (n : Int) = (b : Int)) := ⟨1 + t % n, Lib.hid (by omega)⟩
  have hA : 1 ≤ a ∧ a ≤ n := by have := ha.out; omega
  have hB : 1 ≤ b ∧ b ≤ n := by have := hb.out; omega
  clear ha1 ha2 hb1 hb2
  obtain ⟨P, hP⟩ : ∃ P, Hid (pathF a b = P) := ⟨_, Lib.hid rfl⟩
  obtain ⟨hhd, hld, hfar, _⟩ := ld_ok hA hB hn2
  have hPl : (pathL (a : Int) (b : Int) (n : Int)).length ≤ 100 := path_len a b n
  have hPE : Hid (pathL (a : Int) (b : Int) (n : Int) = P) := Lib.hid (by rw [path_eq hA hB hn2, hP.out])
  rw [hPE.out] at hPl
  rw [hP.out] at hhd hld hfar
  obtain ⟨F, hF⟩ : ∃ F, Hid (farI (n : Int) = F) := ⟨_, Lib.hid rfl⟩
  rw [hF.out] at hfar
  obtain ⟨q, hq⟩ : ∃ q, Hid (P.length = q) := ⟨_, Lib.hid rfl⟩
  rw [hq.out] at hPl hfar
  have HH := Lib.hid hhd
  have HLD := Lib.hid hld
  have hki : Try.prog.underlying 3 = some (.int .i64) := by kernel_rfl
  have hkt : Try.prog.underlying 70 = some (.map 3 4) := by kernel_rfl
  have hkb : Try.prog.underlying 4 = some .bool := by kernel_rfl
  have hkz : ∀ w : World, (zeroValue 4).run Try.prog w = .ok (.bool false) w := fun w => by kernel_rfl
  have HKI := Lib.hid hki
  have HKT := Lib.hid hkt
  have HKB := Lib.hid hkb
  have HKZ := Lib.hid hkz
  clear hhd hld hki hkt hkb hkz
  have hmm := @run_makeMap Try.prog
  go_enter Try.func10, Try.ntmps10
  go_wp2_with fail
  refine (awake_any w).mono ?_
  rintro e w1 ⟨rfl, hb1⟩
  go_wp2_with fail
  rw [hn.out]
  go_quiet (fail)
  have hwa : wrap64 (1 + (f : Int) % (n : Int)) = (a : Int) := (IntWalk.wrap64_in _ (by have := ha.out; omega)).trans ha.out
  have hwb : wrap64 (1 + (t : Int) % (n : Int)) = (b : Int) := (IntWalk.wrap64_in _ (by have := hb.out; omega)).trans hb.out
  have HW := Lib.hid (And.intro hwa hwb)
  rw [hwa, hwb]
  clear hwa hwb
  obtain ⟨w2, hw2⟩ : ∃ x, Hid (w1.drewN nq = x) := ⟨_, Lib.hid rfl⟩
  have HB2 := Lib.hid (below2 hb1 (below_drewN nq w1))
  rw [hw2.out] at HB2 ⊢
  obtain ⟨w3, hrun, hset, hgr⟩ := run_put_set (L := []) (w2.alloc (.map #[] 0)) 70 (set_made (P := Try.prog) (k := 3) (e := 4) w2) (by simp) HKI.out HKT.out HKB.out (a : Int) (i64_wf (by omega)) (by rfl)
  obtain ⟨mb, hmb⟩ : ∃ mb, Hid (w2.heap.size = mb) := ⟨_, Lib.hid rfl⟩
  have hset' := hset
  rw [hmb.out] at hset'
  have HS3 := Lib.hid hset'
  have HB3 : Hid (Below mb w2 w3) := Lib.hid (by
    rw [← hmb.out]
    exact (below_alloc _ _).trans (set_grown hgr (by simp) (Nat.le_refl _)))
  clear hset hset' hgr hb1
  have HLDp : Hid (∃ rest, P = (a : Int) :: rest) := Lib.hid (by
    have h1 := HH.out
    cases P with
    | nil => simp at h1
    | cons x l => simp at h1; exact ⟨l, by rw [h1]⟩)
  go_wp2_with fail
  rw [hmb.out]
  clear hrun hmm
  go_loopg [11, 12] q (fun gk sv x wr => ∃ (pre rest : List Int) (y k : Nat), gk = q - k ∧ k + 1 ≤ q ∧ sv = .int .i64 k ∧ x = .int .i64 y ∧ NumSet Try.prog wr 3 4 mb (pre ++ [(y : Int)]) ∧ Below mb w2 wr ∧ Hid (pre.length = k ∧ pre ++ (y : Int) :: rest = P ∧ leadB n b ((y : Int) :: rest) = true ∧ (∀ z ∈ pre, ∀ u ∈ (y : Int) :: rest, z ≠ u) ∧ 1 ≤ y ∧ y ≤ n))
  case atStart =>
    obtain ⟨rest, hrest⟩ := HLDp.out
    exact ⟨[], rest, a, 0, by omega, by have := hq.out; rw [hrest] at this; simp at this; omega, rfl, rfl, HS3.out, HB3.out, Lib.hid ⟨rfl, by rw [hrest]; rfl, by rw [← hrest]; exact HLD.out, by simp, hA.1, hA.2⟩⟩
  case round =>
    obtain ⟨pre, rest, y, k, rfl, hk, rfl, rfl, hS, hb, hE⟩ := hrel
    have HS := Lib.hid hS
    have HB := Lib.hid hb
    clear hS hb
    cases rest with
    | nil =>
      have hyb : (y : Int) = (b : Int) := by have := hE.out.2.2.1; simpa [leadB] using this
      have e1 : ((y : Int) != (b : Int)) = false := by simpa using hyb
      have e1' : (y != b) = false := by have : y = b := by omega
                                        simpa using this
      have hkq : Hid ((k : Int) = (q : Int) - 1) := Lib.hid (by
        have h1 := congrArg List.length hE.out.2.1
        rw [hq.out] at h1
        have h2 := hE.out.1
        simp at h1
        omega)
      have w64 : IntKind.i64.wrap ((q : Int) - 1) = (q : Int) - 1 := IntWalk.i64_in _ (by omega)
      have HTS := Lib.hid (tow_self (t := n) hB hn2)
      clear hyb
      go_wp2_with fail
      refine (path_any a b n _).mono ?_
      intro e x1 hG
      obtain ⟨A1, c1, rfl, _, _, _, hy1⟩ := hG.rd
      rw [hPE.out, hq.out, hkq.out]
      clear hG
      go_wp2_with fail
      refine (toward_any b b n _).mono ?_
      rintro e x2 ⟨rfl, hy2⟩
      rw [HTS.out]
      go_wp2
      go_ret
      exact ⟨rfl, HB2.out.trans ((HB.out.mono (by rw [← hmb.out]; exact Nat.le_refl _)).trans ((below2 hy1 hy2).mono HB.out.size) |>.mono HB2.out.size)⟩
    | cons y2 l =>
      obtain ⟨q1, q2, q3, q4, q5, q6⟩ := lead_cons hE.out.2.2.1
      have hy2r := lead_rng q6 (b := b) (by omega)
      obtain ⟨y3, rfl⟩ : ∃ m : Nat, y2 = (m : Int) := ⟨y2.toNat, by omega⟩
      have hyr : 1 ≤ y ∧ y ≤ n := hE.out.2.2.2.2
      rw [Int.toNat_natCast, Int.toNat_natCast] at q3
      have HTW := Lib.hid (tow_eq (t := n) hyr hB hn2 q3)
      have Q6 := Lib.hid q6
      have hdis : Hid (∀ z ∈ pre ++ [(y : Int)], ∀ u ∈ (y3 : Int) :: l, z ≠ u) := Lib.hid (by
        intro z hz u hu
        rcases List.mem_append.1 hz with h | h
        · exact hE.out.2.2.2.1 z h u (by simp at hu ⊢; exact .inr hu)
        · have hzy : z = (y : Int) := by simpa using h
          rintro rfl
          rw [hzy] at hu
          rw [List.contains_iff_mem.2 hu] at q5
          cases q5)
      have hnc : Hid ((pre ++ [(y : Int)]).contains (y3 : Int) = false) := Lib.hid (by
        rw [Bool.eq_false_iff]
        intro h
        exact hdis.out _ (List.contains_iff_mem.1 h) _ (by simp) rfl)
      have hkk : k + 2 ≤ q ∧ (k : Int) < F := by
        have h1 := congrArg List.length hE.out.2.1
        rw [hq.out] at h1
        have h2 := hE.out.1
        simp at h1
        omega
      have hLn : Hid ((pre ++ [(y : Int)]).length < 1000000) := Lib.hid (by rw [List.length_append, hE.out.1]; simp; omega)
      obtain ⟨Nl, hNl⟩ : ∃ Nl, Hid (neighL (y : Int) (n : Int) = Nl) := ⟨_, Lib.hid rfl⟩
      have hNll := neigh_len (y : Int) (n : Int)
      rw [hNl.out] at hNll q4
      have hany := Lib.hid (any_split q4)
      obtain ⟨ln, hln⟩ : ∃ ln, Hid (Nl.length = ln) := ⟨_, Lib.hid rfl⟩
      rw [hln.out] at hNll
      have e1 : ((y : Int) != (b : Int)) = true := by simpa using q1
      have e1' : (y != b) = true := by have : ¬ y = b := by omega
                                       simpa using this
      clear q1 q2 q3 q4 q5 q6
      go_wp2_with fail
      refine (toward_any y b n _).mono ?_
      rintro e x1 ⟨rfl, hy1⟩
      rw [HTW.out]
      clear e1 e1'
      go_wp2_with fail
      refine (neighbours_any y n _ (by omega)).mono ?_
      intro e x2 hG
      rw [hNl.out] at hG
      obtain ⟨A4, c4, rfl, r4, _, _, hy2⟩ := hG.rd
      rw [hln.out] at r4 ⊢
      have R4 := Lib.hid r4
      have HY2 := Lib.hid (below2 hy1 hy2)
      have HSx := Lib.hid (HS.out.keep (Keep.of_below (S := []) HY2.out) (by simp))
      clear hG r4 hy1 hy2
      go_wp2_with fail
      go_loopg [14, 50] ln (fun gk s14 i wx => ∃ j : Nat, gk = ln - j ∧ j ≤ ln ∧ i = .int .i64 j ∧ s14 = .bool ((Nl.take j).any fun m => m == (y3 : Int)) ∧ x2 = wx)
      case atStart => exact ⟨0, by omega, by omega, rfl, rfl, rfl⟩
      case round =>
        obtain ⟨j, rfl, hj, rfl, rfl, rfl⟩ := hrel
        by_cases hjl : j < ln
        · have hjN : j < Nl.length := by rw [hln.out]; exact hjl
          obtain ⟨g5, o5, hA5, hc5⟩ := R4.out.2.2 (by omega)
          subst hA5
          obtain ⟨u, hu⟩ : ∃ u, Hid (Nl[j] = u) := ⟨_, Lib.hid rfl⟩
          have hcell := hc5 j hjl
          rw [ints, List.getElem?_map, List.getElem?_eq_getElem hjN, hu.out] at hcell
          simp only [Option.map_some] at hcell
          have hstep : Hid (((Nl.take (j + 1)).any fun m => m == (y3 : Int)) = (((Nl.take j).any fun m => m == (y3 : Int)) || (u == (y3 : Int)))) := Lib.hid (by
            rw [List.take_succ_eq_append_getElem hjN, hu.out, List.any_append]; simp)
          obtain ⟨B, hBd⟩ : ∃ B, Hid (((Nl.take j).any fun m => m == (y3 : Int)) = B) := ⟨_, Lib.hid rfl⟩
          rw [hBd.out] at hstep ⊢
          clear hc5
          cases B
          · obtain ⟨E, hEq⟩ : ∃ E, Hid ((u == (y3 : Int)) = E) := ⟨_, Lib.hid rfl⟩
            rw [hEq.out] at hstep
            have heq := hEq.out
            cases E
            · go_wp2
              go_roundg (ln - (j + 1))
              case measure => omega
              case rel => exact ⟨j + 1, rfl, by omega, by go_num, congrArg Value.bool (by rw [hstep.out]; rfl), rfl⟩
            · go_wp2
              go_roundg (ln - (j + 1))
              case measure => omega
              case rel => exact ⟨j + 1, rfl, by omega, by go_num, congrArg Value.bool (by rw [hstep.out]; rfl), rfl⟩
          · go_wp2
            go_roundg (ln - (j + 1))
            case measure => omega
            case rel => exact ⟨j + 1, rfl, by omega, by go_num, congrArg Value.bool (by rw [hstep.out]; rfl), rfl⟩
        · have hje : j = ln := by omega
          subst hje
          have hfin : ((Nl.take j).any fun m => m == (y3 : Int)) = true := by rw [List.take_of_length_le (by rw [hln.out]; exact Nat.le_refl _)]; exact hany.out
          rw [hfin]
          have hlk := run_lookup_set _ 70 HSx.out HKI.out HKT.out HKB.out (HKZ.out _) (y3 : Int) (i64_wf (by omega))
          rw [hnc.out] at hlk
          have d1 : decide (F ≤ (k : Int)) = false := by simp; omega
          clear hj hjl hfin
          go_wp2_with fail
          refine (far_any n _ (by omega)).mono ?_
          rintro e x3 ⟨rfl, hy3⟩
          rw [hF.out]
          have HSy := Lib.hid (HSx.out.keep (Keep.of_below (S := []) hy3) (by simp))
          have HY3 := Lib.hid (below2 HY2.out hy3)
          clear hlk
          go_wp2_with (at_mapUpdate; refine wpList_put_set rfl (.tmp 74) (.tmp 75) _ 70 rfl HSy.out hLn.out HKI.out HKT.out HKB.out (y3 : Int) (i64_wf (by omega)) hnc.out rfl rfl rfl ?_; intro x4 hs4 hg4)
          have hmbx : mb ≤ x3.heap.size := Nat.le_of_lt HSy.out.lt
          have hb4 : Below mb x3 x4 := set_grown hg4 hmbx (Nat.le_refl _)
          go_roundg (q - (k + 1))
          case measure => omega
          case rel => exact ⟨pre ++ [(y : Int)], l, y3, k + 1, rfl, by omega, by go_num, rfl, hs4, (HB.out.trans (HY3.out.mono (Nat.le_of_lt HS.out.lt))).trans hb4, Lib.hid ⟨by rw [List.length_append, hE.out.1]; rfl, by rw [← hE.out.2.1]; simp, Q6.out, hdis.out, by omega, by omega⟩⟩
theorem leads_row (w : World) (a b c : Int) (ha : (Lit.int .u8 a).wf = true) (hb : (Lit.int .u8 b).wf = true) (hc : (Lit.int .u8 c).wf = true) :
    Calls Try.prog 10 #[.int .u8 a, .int .u8 b, .int .u8 c] w fun e w' => e = .returned (.bool true) ∧ Below w.heap.size w w' := by
  have h1 := bounds_u8 ha
  have h2 := bounds_u8 hb
  have h3 := bounds_u8 hc
  obtain ⟨f, rfl⟩ : ∃ k : Nat, a = (k : Int) := ⟨a.toNat, by omega⟩
  obtain ⟨t, rfl⟩ : ∃ k : Nat, b = (k : Int) := ⟨b.toNat, by omega⟩
  obtain ⟨m, rfl⟩ : ∃ k : Nat, c = (k : Int) := ⟨c.toNat, by omega⟩
  exact leads_walk w f t m (by omega) (by omega) (by omega)
end Go.Proofs.Ytbdcgfdchkbcnaa.Sp

/- arrow: the law ArrowQueues. -/
import Derived.Test.YtmddcmfleipjjaaArI
import Derived.Test.YtmddcmfleipjjaaArQ
import Derived.Test.YtmddcmfleipjjaaQ
import Derived.Test.YtmddcmfleipjjaaZ
import Derived.Test.YtmddcmfleipjjaaD
import Derived.Deep.LoopGhost
import Derived.Deep.DeepCutAuto
import Derived.Deep.CutRange
import Derived.Deep.CutBlock
namespace Go.Proofs.Ytmddcmfleipjjaa.Ar
open Go.RowKit Go.Proofs.Ytmddcmfleipjjaa.L Go.Proofs.Ytmddcmfleipjjaa.A Go.Proofs.Ytmddcmfleipjjaa.R Go.Proofs.Ytmddcmfleipjjaa.T Go.Proofs.Ytmddcmfleipjjaa.F Go.Proofs.Ytmddcmfleipjjaa.S Go.Proofs.Ytmddcmfleipjjaa.Sp Go.Proofs.Ytmddcmfleipjjaa.G Go.Proofs.Ytmddcmfleipjjaa.O Go.Proofs.Ytmddcmfleipjjaa.E Go.Proofs.Ytmddcmfleipjjaa.K
set_option linter.unusedVariables false
set_option linter.unusedSimpArgs false

theorem i64_wf {x : Int} (h : -9223372036854775808 ≤ x ∧ x ≤ 9223372036854775807) : (Lit.int .i64 x).wf = true := by
  simp [Lit.wf, IntKind.min, IntKind.max, IntKind.signed, IntKind.bits]
  omega
set_option maxHeartbeats 8000000 in
set_option maxRecDepth 100000 in
theorem queues_walk (w : World) (mm oo : Nat) (hmm8 : mm < 256) (hoo : oo < 256) (A : Option Addr) (n c : Nat) (xs : List Nat) (hr : Rd w A n (xs.map fun x : Nat => Value.int .u8 (x : Int))) (hx : ∀ x ∈ xs, x < 256) :
    Calls Try.prog 4 #[.int .u8 mm, .int .u8 oo, .slice A n c] w fun e w' => e = .returned (.bool true) ∧ Below w.heap.size w w' := by
  obtain ⟨N, hN⟩ : ∃ N : Nat, Hid ((1 : Int) + (mm : Int) % 16 = (N : Int)) := ⟨1 + mm % 16, Lib.hid (by omega)⟩
  have hN1 : 0 < N := by have := hN.out; omega
  have hN2 : N ≤ 16 := by have := hN.out; omega
  obtain ⟨r0, l0, hr0, hl0e, hl0⟩ := rem_in (x := oo) hN1
  have hl0b : l0 ≤ 16 := Nat.le_trans hl0.2 hN2
  have hn9 := hr.2.1
  have HR := Lib.hid hr
  have HX := Lib.hid hx
  have HL : Hid (xs.length = n) := Lib.hid (by have := hr.len; simpa using this)
  have HA := Lib.hid (awake_any w)
  have HG : Hid (∀ W, Calls Try.prog 8 #[.int .i64 N, .int .i64 l0] W fun e w' => ∃ v, e = .returned (.tuple #[v, .bool true]) ∧ w'.ownsRow W.heap.size AR 3 v (N + 1) ((grL N l0 N).flatMap encA) ∧ Below W.heap.size W w') := Lib.hid fun W => grow_any N l0 hN2 hl0 W
  have hnz : ¬ ((N : Int) = 0) := by omega
  have hnz2 : ((N : Int) == 0) = false := by simp; omega
  have HKI : Hid (Try.prog.underlying 3 = some (.int .i64)) := Lib.hid (by kernel_rfl)
  have HKT : Hid (Try.prog.underlying 37 = some (.map 3 4)) := Lib.hid (by kernel_rfl)
  have HKB : Hid (Try.prog.underlying 4 = some .bool) := Lib.hid (by kernel_rfl)
  have HKZ : Hid (∀ w : World, (zeroValue 4).run Try.prog w = .ok (.bool false) w) := Lib.hid (fun w => by kernel_rfl)
  clear hr hx
  go_enter Try.func4, Try.ntmps4
  go_wp2_with fail
  refine HA.out.mono ?_
  rintro e w1 ⟨rfl, hb1⟩
  have HB1 := Lib.hid hb1
  clear hb1
  go_wp2_with (rw [hN.out])
  refine (HG.out w1).mono ?_
  rintro e w2 ⟨v, rfl, ho, hb2⟩
  obtain ⟨g, cc, rfl⟩ : ∃ g c, v = .slice (some ⟨g, 0, none⟩) (N + 1) c := by
    rcases ho.2 with ⟨_, hn⟩ | ⟨g, cap, cur, hv, _⟩
    · omega
    · exact ⟨g, cap, hv⟩
  have HT0 : Hid (Tb w w2 g cc N (fun m => T m l0)) := Lib.hid ⟨own_base ho HB1.out.size, below2 HB1.out hb2⟩
  have HGB : Hid (w.heap.size ≤ g ∧ g < w2.heap.size) := Lib.hid (by
    have h1 := own_some HT0.out.own
    exact ⟨h1.2.1, h1.2.2.1⟩)
  clear ho hb2
  by_cases hbig : 40 < n
  · have hd : decide ((40 : Int) < (n : Int)) = true := by simp; omega
    go_wp2
    go_ret
    exact ⟨rfl, HT0.out.bel⟩
  · have hd : decide ((40 : Int) < (n : Int)) = false := by simp; omega
    have hd2 : decide (40 < n) = false := by simp; omega
    have hmk := @run_makeMap Try.prog
    obtain ⟨w3, hrun, hset, hgr⟩ := run_put_set (L := []) (w2.alloc (.map #[] 0)) 37 (set_made (P := Try.prog) (k := 3) (e := 4) w2) (by simp) HKI.out HKT.out HKB.out (l0 : Int) (i64_wf (by omega)) (by rfl)
    have hnm := set_made (P := Try.prog) (k := 3) (e := 4) w3
    obtain ⟨am, ham⟩ : ∃ am, Hid (w2.heap.size = am) := ⟨_, Lib.hid rfl⟩
    obtain ⟨bm, hbm⟩ : ∃ bm, Hid (w3.heap.size = bm) := ⟨_, Lib.hid rfl⟩
    obtain ⟨w4, hw4⟩ : ∃ w4, Hid (w3.alloc (.map #[] 0) = w4) := ⟨_, Lib.hid rfl⟩
    have HS0 : Hid (St w w4 g cc N (fun m => T m l0) (bm + 1) am bm none 0 0 [] [(l0 : Int)] []) := Lib.hid (by
      have hk1 : Keep [] w2 (w2.alloc (.map #[] 0)) := .of_below (below_alloc _ _)
      have hs1 := World.size_alloc w2 (.map #[] 0)
      have hk2 : Keep [w2.heap.size] (w2.alloc (.map #[] 0)) w3 := keep_grown hgr _ (by simp)
      have hb4 : Below w3.heap.size w3 w4 := by rw [← hw4.out]; exact below_alloc _ _
      have hs2 := hk2.size
      have hs4 : w4.heap.size = w3.heap.size + 1 := by rw [← hw4.out]; exact World.size_alloc _ _
      have hb23 : Below w2.heap.size w2 w3 := ((Keep.of_below (below_alloc w2 (.map #[] 0))).trans hk2).below (Nat.le_refl _) (by simp)
      have hgb := HGB.out
      rw [ham.out] at hset
      rw [hw4.out, hbm.out] at hnm
      have h1 := ham.out
      have h2 := hbm.out
      exact ⟨(HT0.out.below hb23).below hb4, World.ownsRow_nil _ _ _ _, hset.keep (Keep.of_below (S := []) hb4) (by simp), hnm, by omega⟩)
    clear hset hgr hnm
    go_wp2_with fail
    rw [ham.out, hbm.out, hw4.out]
    clear hd hd2 hr0 hl0e hrun hmk
    have HI0 : Hid (Inv N (fun m => T m l0) [] [(l0 : Int)] [] 0 0 0 n) := Lib.hid (Inv.start hN2 hl0)
    have hn40 : n ≤ 40 := by omega
    clear hbig
    go_loopg [11, 14, 15, 16] (n + 200) (fun gk v av ev iv wr => ∃ (k asks ended nw cp : Nat) (AW : Option Addr) (tz : Nat → Nat) (l : List Fd) (AL BL : List Int), gk = n + 200 - k ∧ v = .slice AW nw cp ∧ av = .int .i64 asks ∧ ev = .int .i64 ended ∧ iv = .int .i64 k ∧ k ≤ n + 200 ∧ Hid (St w wr g cc N tz (bm + 1) am bm AW nw cp l AL BL) ∧ Hid (Inv N tz l AL BL asks ended k n))
    case atStart => exact ⟨0, 0, 0, 0, 0, none, _, [], _, [], by omega, rfl, rfl, rfl, rfl, by omega, HS0, HI0⟩
    case round =>
      obtain ⟨k, asks, ended, nw, cp, AW, tz, l, AL, BL, rfl, rfl, rfl, rfl, rfl, hkn, HS, HI⟩ := hrel
      by_cases hk : k < n + 200
      · have hdk : decide ((k : Int) < (n : Int) + 200) = true := by simp; omega
        go_upto_if 66 with (fail)
        go_cut [17, 66] from 67 to 71 (fun s s66 wx => ∃ x : Nat, s = .int .i64 x ∧ x < 256 ∧ wx = wr)
        case first =>
          by_cases hlt : k < n
          · have hkl : k < xs.length := by have := HL.out; omega
            obtain ⟨x, hxe⟩ : ∃ x : Nat, Hid (xs[k] = x) := ⟨_, Lib.hid rfl⟩
            have hx256 : x < 256 := by rw [← hxe.out]; exact HX.out _ (List.getElem_mem _)
            obtain ⟨ab, ao, hA, hc⟩ := (HR.out.below HS.out.tb.bel).2.2 (by omega)
            have hcell := hc k hlt
            rw [List.getElem?_map, List.getElem?_eq_getElem hkl, hxe.out] at hcell
            simp only [Option.map_some] at hcell
            subst hA
            clear hc
            have hdl : decide ((k : Int) < (n : Int)) = true := by simp; omega
            go_wp2_with fail
            go_meet
            exact ⟨x, rfl, hx256, rfl⟩
          · have hdl : decide ((k : Int) < (n : Int)) = false := by simp; omega
            go_wp2_with fail
            go_meet
            exact ⟨0, rfl, by omega, rfl⟩
        case rest =>
          obtain ⟨x, rfl, hx256, rfl⟩ := hcut
          go_upto_region 17 with (fail)
          go_cut [80] from 72 to 80 (fun s wx => ∃ q : Bool, s = .bool q ∧ wx = wc ∧ Hid (q = true → k < n))
          case first =>
            by_cases hlt : k < n
            · have hdl : decide ((k : Int) < (n : Int)) = true := by simp; omega
              have HLT := Lib.hid hlt
              by_cases hx2 : x % 2 = 0
              · have hm2 : (x : Int) % 2 = 0 := by omega
                clear hx2 hlt
                go_wp2_with fail
                go_meet
                exact ⟨true, rfl, rfl, Lib.hid fun _ => HLT.out⟩
              · have hm2 : (x : Int) % 2 = 1 := by omega
                clear hx2 hlt
                go_wp2_with fail
                go_meet
                exact ⟨false, rfl, rfl, Lib.hid fun _ => HLT.out⟩
            · have hdl : decide ((k : Int) < (n : Int)) = false := by simp; omega
              go_wp2_with fail
              go_meet
              exact ⟨false, rfl, rfl, Lib.hid fun h => absurd h (by simp)⟩
          case rest =>
            obtain ⟨q, rfl, rfl, HQ⟩ := hcut
            cases q with
            | true =>
              have hlt := HQ.out rfl
              obtain ⟨y, hy⟩ : ∃ y : Nat, (x : Int) / 2 = (y : Int) := ⟨x / 2, by omega⟩
              obtain ⟨ry, who, hry, hwho, hwi⟩ := rem_in (x := y) hN1
              have hw16 : who ≤ 16 := Nat.le_trans hwi.2 hN2
              have hwN : who < N + 1 := by have := hwi.2; omega
              have HWI := Lib.hid hwi
              cases hca : has AL who with
              | true =>
                have HC : Hid (AL.contains (who : Int) = true) := Lib.hid hca
                clear hca hwi
                go_wp2_with (at_lookup; refine wpList_lookup_set rfl (.tmp 86) (.tmp 87) 37 rfl HS.out.ask HKI.out HKT.out HKB.out (HKZ.out _) (who : Int) (i64_wf (by omega)) rfl rfl ?_; rw [HC.out])
                go_roundg (n + 200 - (k + 1))
                case measure => omega
                case rel => exact ⟨k + 1, asks, ended, nw, cp, AW, tz, l, AL, BL, rfl, rfl, rfl, rfl, by go_num, by omega, HS, Lib.hid (HI.out.skip (.inl hlt))⟩
              | false =>
                have HC : Hid (AL.contains (who : Int) = false) := Lib.hid hca
                obtain ⟨hne, hinv⟩ := HI.out.want hN2 hlt hwi hca
                have HINV := Lib.hid hinv
                have hcn := HI.out.counts
                have hAL9 : Hid (AL.length < 1000000) := Lib.hid (by omega)
                have ha16 := hcn.1
                have hn16 : nw ≤ 16 := by have := HS.out.len; omega
                have HW := HS.out.want hwi
                obtain ⟨dd, hdd⟩ : ∃ dd, tz who = dd := ⟨_, rfl⟩
                have e1 : (tz who == who) = false := by simpa using hne
                rw [if_neg hne, e1, hdd] at HW
                rw [hdd] at HINV
                have HW := Lib.hid HW
                clear hca hinv hcn e1 hne hdd hwi
                go_wp2_with (at_lookup; refine wpList_lookup_set rfl (.tmp 86) (.tmp 87) 37 rfl HS.out.ask HKI.out HKT.out HKB.out (HKZ.out _) (who : Int) (i64_wf (by omega)) rfl rfl ?_; rw [HC.out])
                refine HW.out.mono ?_
                rintro e w3 ⟨rfl, hs3⟩
                have HS3 := Lib.hid hs3
                clear hs3
                go_wp2_with (first | (at_mapUpdate; refine wpList_put_set rfl (.tmp 98) (.tmp 99) _ 37 rfl HS3.out.ask hAL9.out HKI.out HKT.out HKB.out (who : Int) (i64_wf (by omega)) HC.out rfl rfl rfl ?_; intro x4 hs4 hg4; have HS4 := Lib.hid (HS3.out.putA hs4 hg4); clear hs4 hg4) | (at_builtin; have hbA := below_alloc x4 (.cells #[.int .i64 who, .int .i64 who, .int .i64 dd] FT); have HS5 := HS4.out.below hbA; refine wpList_append_src _ rfl (.tmp 102) (.tmp 107) (bm + 1) 36 FT (.agg #[.int .i64 0, .int .i64 0, .int .i64 0]) 3 24 rfl (by kernel_rfl) (by kernel_rfl) rfl (by decide) (by decide) _ nw (l.flatMap encF) rfl HS5.row (some ⟨x4.heap.size, 0, none⟩) 1 1 rfl (fun h => by cases h) [.int .i64 who, .int .i64 who, .int .i64 dd] rfl (lies_block (heap_alloc_new _ _)) (by simp [Value.oneCell']) (by omega) HS5.ord.2.2.2.1 ?_; intro v1 w6 ho1 hg1 hv1; obtain ⟨A6, c6, hv6, hs6⟩ := HS5.push (F := ⟨who, who, dd⟩) rfl ho1 hg1; have HS6 := Lib.hid hs6; subst hv6; clear hs6 ho1 hg1 hv1 HS5 hbA))
                go_roundg (n + 200 - (k + 1))
                case measure => omega
                case rel => exact ⟨k + 1, asks + 1, ended, nw + 1, c6, A6, _, _, _, BL, rfl, rfl, by go_num, rfl, by go_num, by omega, HS6, HINV⟩
            | false =>
              by_cases hn0 : nw = 0
              · subst hn0
                have hle : l = [] := List.eq_nil_of_length_eq_zero HS.out.len
                go_wp2_with fail
                go_roundg (n + 200 - (k + 1))
                case measure => omega
                case rel => exact ⟨k + 1, asks, ended, 0, cp, AW, tz, l, AL, BL, rfl, rfl, rfl, rfl, by go_num, by omega, HS, Lib.hid (HI.out.skip (.inr hle))⟩
              · have hcn := HI.out.counts
                have hll := HS.out.len
                have hn16 : nw ≤ 16 := by omega
                obtain ⟨y, hy⟩ : ∃ y : Nat, (x : Int) / 2 = (y : Int) := ⟨x / 2, by omega⟩
                obtain ⟨ax0, hax0, hax1⟩ : ∃ r : Nat, (y : Int) % (nw : Int) = (r : Int) ∧ r < nw := by
                  have h1 := Int.emod_nonneg (y : Int) (show (nw : Int) ≠ 0 by omega)
                  have h2 := Int.emod_lt_of_pos (y : Int) (show 0 < (nw : Int) by omega)
                  exact ⟨((y : Int) % (nw : Int)).toNat, by omega, by omega⟩
                obtain ⟨gb, hgb, -⟩ := HS.out.at (i := 0) (by omega) (List.getElem?_eq_getElem (by omega))
                subst hgb
                have HN16 := Lib.hid hn16
                have HLL := Lib.hid hll
                have hz1 : ¬ ((nw : Int) = 0) := by omega
                have hz2 : ((nw : Int) == 0) = false := by simp; omega
                have hz3 : (nw == 0) = false := by simp; omega
                have HENDED := Lib.hid hcn
                clear hcn hll
                go_wp2_with fail
                have HAX0 := Lib.hid hax0
                clear hy hax0
                go_loopg [21, 22] (ax0 + 1) (fun gk av jv wr => ∃ ax jx : Nat, gk = ax + 1 - jx ∧ av = .int .i64 ax ∧ jv = .int .i64 jx ∧ ax < nw ∧ jx ≤ ax + 1 ∧ Hid (St w wr g cc N tz (bm + 1) am bm (some ⟨gb, 0, none⟩) nw cp l AL BL))
                case atStart => exact ⟨ax0, 0, by omega, by rw [HAX0.out], rfl, hax1, by omega, HS⟩
                case round =>
                  obtain ⟨ax, jx, rfl, rfl, rfl, hax, hjx, HS1⟩ := hrel
                  obtain ⟨G, hG⟩ : ∃ G, l[ax]? = some G := ⟨_, List.getElem?_eq_getElem (by have := HS1.out.len; omega)⟩
                  obtain ⟨gb1, eb1, b0, b1, b2⟩ := HS1.out.at hax hG
                  cases eb1
                  by_cases hj : jx < ax
                  · have hdj : decide ((jx : Int) < (ax : Int)) = true := by simp; omega
                    have hjn : jx < nw := by omega
                    obtain ⟨F, hF⟩ : ∃ F, l[jx]? = some F := ⟨_, List.getElem?_eq_getElem (by have := HS1.out.len; omega)⟩
                    obtain ⟨gb1, eb1, a0, a1, a2⟩ := HS1.out.at hjn hF
                    cases eb1
                    obtain ⟨fw, ff, ft⟩ := F
                    obtain ⟨gw, gf, gt⟩ := G
                    dsimp only at a0 a1 a2 b0 b1 b2
                    clear hF hG a0 b0
                    by_cases e1 : ff = gf
                    · by_cases e2 : ft = gt
                      · subst e1 e2
                        go_wp2_with fail
                        go_quiet (fail)
                        go_wp2_with fail
                        go_roundg (jx + 1 - (jx + 1))
                        case measure => omega
                        case rel => exact ⟨jx, jx + 1, by omega, rfl, by go_num, by omega, by omega, Lib.hid (HS1.out.below (below_drewN _ _))⟩
                      · have q1 : ((ft : Int) == (gt : Int)) = false := by simp; omega
                        subst e1
                        go_wp2_with fail
                        go_quiet (fail)
                        go_wp2_with fail
                        go_roundg (ax + 1 - (jx + 1))
                        case measure => omega
                        case rel => exact ⟨ax, jx + 1, by omega, rfl, by go_num, by omega, by omega, Lib.hid (HS1.out.below (below_drewN _ _))⟩
                    · have q1 : ((ff : Int) == (gf : Int)) = false := by simp; omega
                      go_wp2_with fail
                      go_quiet (fail)
                      go_wp2_with fail
                      go_roundg (ax + 1 - (jx + 1))
                      case measure => omega
                      case rel => exact ⟨ax, jx + 1, by omega, rfl, by go_num, by omega, by omega, Lib.hid (HS1.out.below (below_drewN _ _))⟩
                  · have hdj : decide ((jx : Int) < (ax : Int)) = false := by simp; omega
                    obtain ⟨fw, ff, ft⟩ := G
                    dsimp only at b0 b1 b2
                    have HG2 := Lib.hid hG
                    obtain ⟨fb, hfb⟩ : ∃ fb, Hid (wr.heap.size = fb) := ⟨_, Lib.hid rfl⟩
                    obtain ⟨w5, hw5⟩ : ∃ w5, Hid (wr.alloc (.cells #[.int .i64 fw, .int .i64 ff, .int .i64 ft] FT) = w5) := ⟨_, Lib.hid rfl⟩
                    have HSF : Hid (StF w w5 g cc N tz (bm + 1) am bm (some ⟨gb, 0, none⟩) nw cp l AL BL fb fw ff ft) := Lib.hid (by rw [← hw5.out, ← hfb.out]; exact StF.make HS1.out)
                    obtain ⟨gb1, AJ, eb1, hle, hAJ, hLA, hLB⟩ := HSF.out.st.parts ax hax
                    cases eb1
                    obtain ⟨bx, hbx⟩ : ∃ bx, ax + 1 = bx := ⟨_, rfl⟩
                    obtain ⟨FA, hFAe⟩ : ∃ FA, (l.take ax).flatMap encF = FA := ⟨_, rfl⟩
                    obtain ⟨FB, hFBe⟩ : ∃ FB, (l.drop bx).flatMap encF = FB := ⟨_, rfl⟩
                    have HFA : Hid (FA.length = ax * 3) := Lib.hid (by rw [← hFAe, flat_len encF_len, List.length_take]; have := HLL.out; congr 1; omega)
                    have HFB : Hid (FB.length = (nw - bx) * 3) := Lib.hid (by rw [← hFBe, flat_len encF_len, List.length_drop, HLL.out])
                    have HOA : Hid (∀ u ∈ FA, u.oneCell' = true) := Lib.hid (by rw [← hFAe]; exact one_find)
                    have HOB : Hid (∀ u ∈ FB, u.oneCell' = true) := Lib.hid (by rw [← hFBe]; exact one_find)
                    have HE1 : Hid (ax + (nw - bx) = nw - 1 ∧ FA ++ FB = (l.eraseIdx ax).flatMap encF) := Lib.hid (by
                      refine ⟨by omega, ?_⟩
                      rw [← hFAe, ← hFBe, ← List.flatMap_append, List.eraseIdx_eq_take_drop_succ, hbx])
                    rw [hbx] at hAJ hLB
                    rw [hFAe] at hLA
                    rw [hFBe] at hLB
                    have HWR : Hid (IntKind.i64.wrap ((ax : Int) + 1) = (bx : Int)) := Lib.hid (by rw [IntKind.wrap_i64]; omega)
                    have HAJ := Lib.hid hAJ
                    have HLA := Lib.hid hLA
                    have HLB := Lib.hid hLB
                    have HIX := Lib.hid hax
                    have HBN : Hid (bx ≤ nw ∧ bx ≤ cp) := Lib.hid (by omega)
                    have hacp : ax ≤ cp := by omega
                    clear hG hAJ hLA hLB hFAe hFBe hbx hle
                    go_wp2_with fail
                    rw [hw5.out, hfb.out]
                    clear b0 b1 b2
                    refine wp_region_last (fun W => Below w5.heap.size w5 W) (Below w5.heap.size) (fun k u v => ((k = 9) → (Below w5.heap.size) u v) ∧ (¬ (k = 9) → (fun u v => Below u.heap.size u v ∧ Below w5.heap.size u v) u v)) (fun a i => match i with
                        | 0 => (fun v W => ∃ A0, v = .slice A0 0 0 ∧ W.ownsRow w5.heap.size FT 3 v 0 [])
                        | 1 => (fun v _ => v = .slice (some ⟨gb, 0, none⟩) nw cp)
                        | 2 => (fun v _ => v = .int .i64 (ax : Int))
                        | 3 => (fun v _ => v = .slice (some ⟨gb, 0, none⟩) ax cp)
                        | 4 => (fun v W => W.ownsRow w5.heap.size FT 3 v ax FA)
                        | 5 => (fun v _ => v = .slice (some ⟨gb, 0, none⟩) nw cp)
                        | 6 => (fun v _ => v = .int .i64 (ax : Int))
                        | 7 => (fun v _ => v = .int .i64 (bx : Int))
                        | 8 => (fun v _ => v = .slice (some AJ) (nw - bx) (cp - bx))
                        | 9 => (fun v W => W.ownsRow w5.heap.size FT 3 v (ax + (nw - bx)) (FA ++ FB))
                        | 10 => (fun v W => W.ownsRow w5.heap.size FT 3 v (ax + (nw - bx)) (FA ++ FB))
                        | _ => (fun _ _ => True)) #[0, 0, 0, 6, 15, 0, 0, 64, 224, 511, 1023] #[0, 0, 0, 6, 9, 0, 0, 64, 160, 272, 512] 1518 10 (by kernel_rfl) 11 rfl (by kernel_rfl) (fun m hm => by subst hm; kernel_rfl) (by kernel_rfl) (fun w => Below.refl _ _) (fun u v w h1 h2 => h1.trans h2) ?_ ?_ (below_drewN 1 w5) ?_ ?_
                    · intro k u v hk hr
                      by_cases hs : k = 9
                      · have h := hr.1 hs; exact h
                      · have h := hr.2 hs; exact h.2
                    · intro i hi hiz
                      rcases (by omega : i = 0 ∨ i = 1 ∨ i = 2 ∨ i = 3 ∨ i = 4 ∨ i = 5 ∨ i = 6 ∨ i = 7 ∨ i = 8 ∨ i = 9 ∨ i = 10) with rfl | rfl | rfl | rfl | rfl | rfl | rfl | rfl | rfl | rfl | rfl
                      · intro k hk q hq hqt v w w' h hr
                        by_cases hs : k = 9
                        · have hr0 := hr.1 hs
                          rcases hs with rfl
                          · exact absurd (hq.trans hqt) (ne_true_of_eq_false (by kernel_rfl))
                        · have hr := hr.2 hs
                          obtain ⟨A0, h1, h2⟩ := h; exact ⟨A0, h1, own_kept h2 hr.1⟩
                      · intro k hk q hq hqt v w w' h hr
                        by_cases hs : k = 9
                        · have hr0 := hr.1 hs
                          rcases hs with rfl
                          · exact (fun (h : _) (hr : _) => by exact h) h hr0
                        · have hr := hr.2 hs
                          exact h
                      · intro k hk q hq hqt v w w' h hr
                        by_cases hs : k = 9
                        · have hr0 := hr.1 hs
                          rcases hs with rfl
                          · exact (fun (h : _) (hr : _) => by exact h) h hr0
                        · have hr := hr.2 hs
                          exact h
                      · intro k hk q hq hqt v w w' h hr
                        by_cases hs : k = 9
                        · have hr0 := hr.1 hs
                          rcases hs with rfl
                          · exact (fun (h : _) (hr : _) => by exact h) h hr0
                        · have hr := hr.2 hs
                          exact h
                      · intro k hk q hq hqt v w w' h hr
                        by_cases hs : k = 9
                        · have hr0 := hr.1 hs
                          rcases hs with rfl
                          · exact absurd (hq.trans hqt) (ne_true_of_eq_false (by kernel_rfl))
                        · have hr := hr.2 hs
                          exact own_kept h hr.1
                      · intro k hk q hq hqt v w w' h hr
                        by_cases hs : k = 9
                        · have hr0 := hr.1 hs
                          rcases hs with rfl
                          · exact (fun (h : _) (hr : _) => by exact h) h hr0
                        · have hr := hr.2 hs
                          exact h
                      · intro k hk q hq hqt v w w' h hr
                        by_cases hs : k = 9
                        · have hr0 := hr.1 hs
                          rcases hs with rfl
                          · exact (fun (h : _) (hr : _) => by exact h) h hr0
                        · have hr := hr.2 hs
                          exact h
                      · intro k hk q hq hqt v w w' h hr
                        by_cases hs : k = 9
                        · have hr0 := hr.1 hs
                          rcases hs with rfl
                          · exact (fun (h : _) (hr : _) => by exact h) h hr0
                        · have hr := hr.2 hs
                          exact h
                      · intro k hk q hq hqt v w w' h hr
                        by_cases hs : k = 9
                        · have hr0 := hr.1 hs
                          rcases hs with rfl
                          · exact (fun (h : _) (hr : _) => by exact h) h hr0
                        · have hr := hr.2 hs
                          exact h
                      · intro k hk q hq hqt v w w' h hr
                        by_cases hs : k = 9
                        · have hr0 := hr.1 hs
                          rcases hs with rfl
                          · exact absurd (hq.trans hqt) (ne_true_of_eq_false (by kernel_rfl))
                        · have hr := hr.2 hs
                          exact own_kept h hr.1
                      · exact absurd rfl hiz
                    · intro i hi
                      rcases (by omega : i = 0 ∨ i = 1 ∨ i = 2 ∨ i = 3 ∨ i = 4 ∨ i = 5 ∨ i = 6 ∨ i = 7 ∨ i = 8 ∨ i = 9 ∨ i = 10) with rfl | rfl | rfl | rfl | rfl | rfl | rfl | rfl | rfl | rfl | rfl
                      · -- 0: Op.buildSlice 36 0 #[]
                        intro l hl vs W hS hR hp
                        obtain rfl : l = [] := hl.symm.trans (by kernel_rfl)
                        clear hp hl
                        refine opgoal (_) (some 151) rfl rfl fun K hK => ?_
                        refine Runs.mk ?_
                        simp only [putAll]
                        go_simp
                        refine hK _ _ ⟨_, rfl, ?_⟩ (fun _ => below2 hS (below_alloc _ _)) ⟨fun h => absurd h (by decide), fun _ => ⟨below_alloc _ _, (below_alloc _ _).mono hS.size⟩⟩ _ rfl rfl
                        exact World.ownsRow_lit (size := 3) W #[] 0 hS.size (by decide) rfl
                      · -- 1: Op.move (Operand.tmp 11)
                        intro l hl vs W hS hR hp
                        obtain rfl : l = [] := hl.symm.trans (by kernel_rfl)
                        clear hp hl
                        refine opgoal (_) (some 152) rfl rfl fun K hK => ?_
                        refine Runs.mk ?_
                        simp only [putAll]
                        go_simp
                        refine hK _ _ ?_ (fun _ => hS) ⟨fun h => absurd h (by decide), fun _ => ((fun w => ⟨Below.refl _ _, Below.refl _ _⟩) W)⟩ _ rfl rfl
                        first | rfl | go_simp | simp
                      · -- 2: Op.move (Operand.tmp 21)
                        intro l hl vs W hS hR hp
                        obtain rfl : l = [] := hl.symm.trans (by kernel_rfl)
                        clear hp hl
                        refine opgoal (_) (some 153) rfl rfl fun K hK => ?_
                        refine Runs.mk ?_
                        simp only [putAll]
                        go_simp
                        refine hK _ _ ?_ (fun _ => hS) ⟨fun h => absurd h (by decide), fun _ => ((fun w => ⟨Below.refl _ _, Below.refl _ _⟩) W)⟩ _ rfl rfl
                        first | rfl | go_simp | simp
                      · -- 3: Op.slice 36 (Operand.tmp 152) none (some (Operand.tmp 153)) none
                        intro l hl vs W hS hR hp
                        obtain rfl : l = [(1, 152), (2, 153)] := hl.symm.trans (by kernel_rfl)
                        have p1 : vs 1 = _ := hp 1 (by decide) (by decide)
                        have p2 : vs 2 = _ := hp 2 (by decide) (by decide)
                        clear hp hl
                        refine opgoal (_) (some 154) rfl rfl fun K hK => ?_
                        have hix := HIX.out
                        refine Runs.mk ?_
                        simp only [putAll]
                        go_simp
                        refine hK _ _ ?_ (fun _ => hS) ⟨fun h => absurd h (by decide), fun _ => ((fun w => ⟨Below.refl _ _, Below.refl _ _⟩) W)⟩ _ rfl rfl
                        first | rfl | go_simp | simp
                      · -- 4: Op.call { callee := Callee.builtin Builtin.append, args := #[Operand.tmp 151, Operand.tmp 154], argTypes := #[36, 36] }
                        intro l hl vs W hS hR hp
                        obtain rfl : l = [(0, 151), (1, 152), (2, 153), (3, 154)] := hl.symm.trans (by kernel_rfl)
                        have p0 : (fun v W => ∃ A0, v = .slice A0 0 0 ∧ W.ownsRow w5.heap.size FT 3 v 0 []) (vs 0) W := hp 0 (by decide) (by decide)
                        dsimp only at p0
                        have p3 : vs 3 = _ := hp 3 (by decide) (by decide)
                        clear hp hl
                        refine opgoal ({ dst := some 155, op := Op.call { callee := Callee.builtin Builtin.append, args := #[Operand.tmp 151, Operand.tmp 154], argTypes := #[36, 36] }, type := 36, pos := "law.go:207", after := #[{ on := 0, ground := Ground.data }, { on := 3, ground := Ground.data }], guard := none }) (some 155) rfl rfl fun K hK => ?_
                        obtain ⟨A0, q1, o1⟩ := p0
                        rw [q1] at o1
                        refine runs_append_fresh W (wanted_none rfl) (.tmp 151) (.tmp 154) w5.heap.size 36 FT (.agg #[.int .i64 0, .int .i64 0, .int .i64 0]) 3 24 rfl (by kernel_rfl) (by kernel_rfl) rfl (by decide) (by decide) A0 (eval_putAll (j := 0) (by simp) (by decide) (by intro k hk; simpa using hk) q1) o1 (some ⟨gb, 0, none⟩) ax cp (eval_putAll (j := 3) (by simp) (by decide) (by intro k hk; simpa using hk) p3) (fun h => by cases h) FA HFA.out (HLA.out W hS) HOA.out (by have := HN16.out; have := HIX.out; omega) hS.size ?_
                        intro v' w' h1 h2
                        exact hK _ _ h1 (fun _ => below2 hS h2) ⟨fun h => absurd h (by decide), fun _ => ⟨h2, h2.mono hS.size⟩⟩ _ put_dfs (put_slot (by simp))
                      · -- 5: Op.move (Operand.tmp 11)
                        intro l hl vs W hS hR hp
                        obtain rfl : l = [] := hl.symm.trans (by kernel_rfl)
                        clear hp hl
                        refine opgoal (_) (some 156) rfl rfl fun K hK => ?_
                        refine Runs.mk ?_
                        simp only [putAll]
                        go_simp
                        refine hK _ _ ?_ (fun _ => hS) ⟨fun h => absurd h (by decide), fun _ => ((fun w => ⟨Below.refl _ _, Below.refl _ _⟩) W)⟩ _ rfl rfl
                        first | rfl | go_simp | simp
                      · -- 6: Op.move (Operand.tmp 21)
                        intro l hl vs W hS hR hp
                        obtain rfl : l = [] := hl.symm.trans (by kernel_rfl)
                        clear hp hl
                        refine opgoal (_) (some 157) rfl rfl fun K hK => ?_
                        refine Runs.mk ?_
                        simp only [putAll]
                        go_simp
                        refine hK _ _ ?_ (fun _ => hS) ⟨fun h => absurd h (by decide), fun _ => ((fun w => ⟨Below.refl _ _, Below.refl _ _⟩) W)⟩ _ rfl rfl
                        first | rfl | go_simp | simp
                      · -- 7: Op.binOp BinOp.add 3 (Operand.tmp 157) (Operand.const (Value.int IntKind.i64 1)) 3
                        intro l hl vs W hS hR hp
                        obtain rfl : l = [(6, 157)] := hl.symm.trans (by kernel_rfl)
                        have p6 : vs 6 = _ := hp 6 (by decide) (by decide)
                        clear hp hl
                        refine opgoal (_) (some 158) rfl rfl fun K hK => ?_
                        have hwr' := HWR.out
                        refine Runs.mk ?_
                        simp only [putAll]
                        go_simp
                        refine hK _ _ ?_ (fun _ => hS) ⟨fun h => absurd h (by decide), fun _ => ((fun w => ⟨Below.refl _ _, Below.refl _ _⟩) W)⟩ _ rfl rfl
                        first | rfl | go_simp | simp
                      · -- 8: Op.slice 36 (Operand.tmp 156) (some (Operand.tmp 158)) none none
                        intro l hl vs W hS hR hp
                        obtain rfl : l = [(5, 156), (6, 157), (7, 158)] := hl.symm.trans (by kernel_rfl)
                        have p5 : vs 5 = _ := hp 5 (by decide) (by decide)
                        have p7 : vs 7 = _ := hp 7 (by decide) (by decide)
                        clear hp hl
                        refine opgoal (_) (some 159) rfl rfl fun K hK => ?_
                        have hAJ' := HAJ.out
                        have hbxn := HBN.out.1
                        have hbxc := HBN.out.2
                        refine Runs.mk ?_
                        simp only [putAll]
                        go_simp
                        refine hK _ _ ?_ (fun _ => hS) ⟨fun h => absurd h (by decide), fun _ => ((fun w => ⟨Below.refl _ _, Below.refl _ _⟩) W)⟩ _ rfl rfl
                        first | rfl | go_simp | simp
                      · -- 9: Op.call { callee := Callee.builtin Builtin.append, args := #[Operand.tmp 155, Operand.tmp 159], argTypes := #[36, 36] }
                        intro l hl vs W hS hR hp
                        obtain rfl : l = [(0, 151), (1, 152), (2, 153), (3, 154), (4, 155), (5, 156), (6, 157), (7, 158), (8, 159)] := hl.symm.trans (by kernel_rfl)
                        have p4 : (fun v W => W.ownsRow w5.heap.size FT 3 v ax FA) (vs 4) W := hp 4 (by decide) (by decide)
                        dsimp only at p4
                        have p8 : vs 8 = _ := hp 8 (by decide) (by decide)
                        clear hp hl
                        refine opgoal ({ dst := some 160, op := Op.call { callee := Callee.builtin Builtin.append, args := #[Operand.tmp 155, Operand.tmp 159], argTypes := #[36, 36] }, type := 36, pos := "law.go:207", after := #[{ on := 4, ground := Ground.data }, { on := 8, ground := Ground.data }, { on := 4, ground := Ground.chain }], guard := none }) (some 160) rfl rfl fun K hK => ?_
                        refine runs_append_src W (wanted_none rfl) (.tmp 155) (.tmp 159) w5.heap.size 36 FT (.agg #[.int .i64 0, .int .i64 0, .int .i64 0]) 3 24 rfl (by kernel_rfl) (by kernel_rfl) rfl (by decide) (by decide) (vs 4) ax FA (eval_putAll (j := 4) (by simp) (by decide) (by intro k hk; simpa using hk) rfl) p4 (some AJ) (nw - bx) (cp - bx) (eval_putAll (j := 8) (by simp) (by decide) (by intro k hk; simpa using hk) p8) (fun h => by cases h) FB HFB.out (HLB.out W hS) HOB.out (by have := HN16.out; have := HIX.out; omega) hS.size ?_
                        intro v' w' h1 h2 h3
                        have hbl := below_of_grown h2 hS.size (fun k hk => (own_lt p4 k hk).1)
                        exact hK _ _ h1 (fun _ => hS.trans hbl) ⟨fun _ => hbl, fun h => absurd (by decide) h⟩ _ put_dfs (put_slot (by simp))
                      · -- 10: Op.assign (Operand.tmp 160)
                        intro l hl vs W hS hR hp
                        obtain rfl : l = [(0, 151), (1, 152), (2, 153), (3, 154), (4, 155), (5, 156), (6, 157), (7, 158), (8, 159), (9, 160)] := hl.symm.trans (by kernel_rfl)
                        have p9 : (fun v W => W.ownsRow w5.heap.size FT 3 v (ax + (nw - bx)) (FA ++ FB)) (vs 9) W := hp 9 (by decide) (by decide)
                        dsimp only at p9
                        clear hp hl
                        refine opgoal (_) (some 11) rfl rfl fun K hK => ?_
                        refine Runs.mk ?_
                        simp only [putAll]
                        go_simp
                        exact hK _ _ p9 (fun _ => hS) ⟨fun h => absurd h (by decide), fun _ => (fun w => ⟨Below.refl _ _, Below.refl _ _⟩) W⟩ _ rfl rfl
                    · intro l hl vs W hR hp
                      obtain rfl : l = [(0, 151), (1, 152), (2, 153), (3, 154), (4, 155), (5, 156), (6, 157), (7, 158), (8, 159), (9, 160), (10, 11)] := hl.symm.trans (by kernel_rfl)
                      have p1 : vs 1 = _ := hp 1 (by decide) (by decide)
                      have p2 : vs 2 = _ := hp 2 (by decide) (by decide)
                      have p3 : vs 3 = _ := hp 3 (by decide) (by decide)
                      have p5 : vs 5 = _ := hp 5 (by decide) (by decide)
                      have p6 : vs 6 = _ := hp 6 (by decide) (by decide)
                      have p7 : vs 7 = _ := hp 7 (by decide) (by decide)
                      have p8 : vs 8 = _ := hp 8 (by decide) (by decide)
                      have p10 : (fun v W => W.ownsRow w5.heap.size FT 3 v (ax + (nw - bx)) (FA ++ FB)) (vs 10) W := hp 10 (by decide) (by decide)
                      dsimp only at p10
                      clear hp hl
                      simp only [putAll_mk, setAll, List.setIfInBounds_toArray, List.set_cons_succ, List.set_cons_zero, p1, p2, p3, p5, p6, p7, p8]
                      have hb5 : Below w5.heap.size w5 W := (below_drewN 1 w5).trans hR
                      rw [HE1.out.1, HE1.out.2] at p10
                      obtain ⟨A7, c7, hv7, hs7⟩ := HSF.out.fresh hb5 p10
                      obtain ⟨m7, hm7⟩ : ∃ m7, nw - 1 = m7 := ⟨_, rfl⟩
                      obtain ⟨l7, hl7⟩ : ∃ l7, l.eraseIdx ax = l7 := ⟨_, rfl⟩
                      obtain ⟨t2, ht2⟩ : ∃ t2, upd tz ft ff = t2 := ⟨_, rfl⟩
                      obtain ⟨hxl, hxe⟩ := List.getElem?_eq_some_iff.1 HG2.out
                      obtain ⟨hti, hfi, hne, hTT⟩ := HI.out.dest hN2 hxl hxe
                      dsimp only at hti hfi hne hTT
                      have hft1 := hti.1
                      have hft16 : ft ≤ 16 := Nat.le_trans hti.2 hN2
                      have hfw16 : fw ≤ 16 := by have := (HI.out.qs.fd ⟨fw, ff, ft⟩ (hxe ▸ List.getElem_mem hxl)).1.2; dsimp only at this; omega
                      have hftN : ft < N + 1 := by have := hti.2; omega
                      obtain ⟨tv, htv⟩ : ∃ tv : Nat, (if tz ft = ft then 0 else tz ft) = tv := ⟨_, rfl⟩
                      obtain ⟨gv, hgv⟩ : ∃ gv, (tz ft == ft) = gv := ⟨_, rfl⟩
                      have HCALL : Hid (∀ W', StF w W' g cc N tz (bm + 1) am bm A7 m7 c7 l7 AL BL fb fw ff ft → Calls Try.prog 10 #[.pointer (some ⟨g, ft * 3, none⟩), .int .i64 ff] W' fun e w' => e = .returned (.tuple #[.int .i64 tv, .bool gv, .int .i64 0]) ∧ StF w w' g cc N t2 (bm + 1) am bm A7 m7 c7 l7 AL BL fb fw ff ft) := Lib.hid fun W' h => by
                        have := h.find hN2 hti hfi hTT hne
                        rw [htv, hgv, ht2] at this
                        exact this
                      rw [hm7, hl7] at hs7
                      rw [hm7] at hv7
                      rw [hv7]
                      have HM7 : Hid (m7 + 1 = nw ∧ m7 ≤ 16) := Lib.hid (by have := HN16.out; omega)
                      have HEND : Hid (gv = true → has AL ft = true ∧ has BL ft = false ∧ ft ≠ fw ∧ Inv N t2 l7 AL (BL ++ [(ft : Int)]) asks (ended + 1) (k + 1) n) := Lib.hid fun h => by
                        have hh : tz ft = ft := by rw [← hgv] at h; simpa using h
                        have := HI.out.ends hN2 hxl hxe hh
                        dsimp only at this
                        rw [ht2, hl7] at this
                        exact this
                      have HON : Hid (gv = false → Inv N t2 (l7 ++ [⟨fw, ft, tv⟩]) AL BL asks ended (k + 1) n) := Lib.hid fun h => by
                        have hh : tz ft ≠ ft := by rw [← hgv] at h; simpa using h
                        have := HI.out.on hN2 hxl hxe hh
                        dsimp only at this
                        rw [ht2, hl7] at this
                        rw [if_neg hh] at htv
                        rw [← htv]
                        exact this
                      have HF7 := Lib.hid hs7
                      clear hb5 p10 hR hs7 hv7 hm7 hl7 ht2 hxl hxe hti hfi hne hTT htv hgv
                      go_wp2_with fail
                      obtain ⟨W7, hW7⟩ : ∃ W7, Hid (W = W7) := ⟨_, Lib.hid rfl⟩
                      rw [hW7.out] at HF7 ⊢
                      have hS0 : StF w W7.drew g cc N tz (bm + 1) am bm A7 m7 c7 l7 AL BL fb fw ff ft := HF7.out.below (below_drewN 1 W7)
                      refine wp_region_done (fun dnf => fun W => StF w W g cc N (if (dnf 6) then t2 else tz) (bm + 1) am bm A7 m7 c7 l7 AL BL fb fw ff ft) (fun _ _ => True) (fun k u v => (k = 6 → (fun _ _ => True) u v) ∧ (¬ k = 6 → (fun _ _ => True) u v)) (fun a i => match i with
                          | 0 => (fun v _ => v = .slice (some ⟨g, 0, none⟩) (N + 1) cc)
                          | 1 => (fun v _ => v = .pointer (some ⟨fb, 2, none⟩))
                          | 2 => (fun v _ => v = .int .i64 (ft : Int))
                          | 3 => (fun v _ => v = .pointer (some ⟨g, ft * 3, none⟩))
                          | 4 => (fun v _ => v = .pointer (some ⟨fb, 1, none⟩))
                          | 5 => (fun v _ => v = .int .i64 (ff : Int))
                          | 6 => (fun v _ => v = .tuple #[.int .i64 tv, .bool gv, .int .i64 0])
                          | 7 => (fun v _ => v = .tuple #[.int .i64 tv, .bool gv, .int .i64 0])
                          | 8 => (fun v _ => v = .int .i64 tv)
                          | 9 => (fun v _ => v = .bool gv)
                          | 10 => (fun v _ => v = .int .i64 0)
                          | 11 => (fun v _ => v = .int .i64 tv)
                          | 12 => (fun v _ => v = .bool gv)
                          | 13 => (fun v _ => v = .int .i64 0)
                          | _ => (fun _ _ => True)) #[0, 0, 2, 7, 0, 16, 63, 127, 255, 255, 255, 511, 3071, 8191] #[0, 0, 2, 5, 0, 16, 40, 64, 128, 128, 128, 256, 512, 1024] 16383 (by kernel_rfl) 14 rfl (fun m hm => by subst hm; kernel_rfl) (by kernel_rfl) (fun w => trivial) (fun u v w h1 h2 => trivial) ?_ ?_ (hS0) ?_ ?_
                      · intro k u v hk hr
                        by_cases hs6 : k = 6
                        · have h := hr.1 hs6; exact trivial
                        have h := hr.2 hs6; exact trivial
                      · intro i hi
                        rcases (by omega : i = 0 ∨ i = 1 ∨ i = 2 ∨ i = 3 ∨ i = 4 ∨ i = 5 ∨ i = 6 ∨ i = 7 ∨ i = 8 ∨ i = 9 ∨ i = 10 ∨ i = 11 ∨ i = 12 ∨ i = 13) with rfl | rfl | rfl | rfl | rfl | rfl | rfl | rfl | rfl | rfl | rfl | rfl | rfl | rfl
                        · intro k hk y hy hyt v w w' h hr
                          exact h
                        · intro k hk y hy hyt v w w' h hr
                          exact h
                        · intro k hk y hy hyt v w w' h hr
                          exact h
                        · intro k hk y hy hyt v w w' h hr
                          exact h
                        · intro k hk y hy hyt v w w' h hr
                          exact h
                        · intro k hk y hy hyt v w w' h hr
                          exact h
                        · intro k hk y hy hyt v w w' h hr
                          exact h
                        · intro k hk y hy hyt v w w' h hr
                          exact h
                        · intro k hk y hy hyt v w w' h hr
                          exact h
                        · intro k hk y hy hyt v w w' h hr
                          exact h
                        · intro k hk y hy hyt v w w' h hr
                          exact h
                        · intro k hk y hy hyt v w w' h hr
                          exact h
                        · intro k hk y hy hyt v w w' h hr
                          exact h
                        · intro k hk y hy hyt v w w' h hr
                          exact h
                      · intro i hi
                        rcases (by omega : i = 0 ∨ i = 1 ∨ i = 2 ∨ i = 3 ∨ i = 4 ∨ i = 5 ∨ i = 6 ∨ i = 7 ∨ i = 8 ∨ i = 9 ∨ i = 10 ∨ i = 11 ∨ i = 12 ∨ i = 13) with rfl | rfl | rfl | rfl | rfl | rfl | rfl | rfl | rfl | rfl | rfl | rfl | rfl | rfl
                        · -- 0: Op.move (Operand.tmp 9)
                          intro l hl vs W dn e1 e2 e3 hS hR hp
                          have f6 : dn 6 = false := e3 6 (by kernel_rfl)
                          replace hS : (fun W => StF w W g cc N (if (dn 6) then t2 else tz) (bm + 1) am bm A7 m7 c7 l7 AL BL fb fw ff ft) W := hS
                          rw [f6] at hS
                          have g6 : (dn 6 || ((0 : Nat) == 6)) = false := by rw [f6]; rfl
                          refine OpGoal.imp (S1 := fun W => StF w W g cc N (if false then t2 else tz) (bm + 1) am bm A7 m7 c7 l7 AL BL fb fw ff ft) (fun W' h => ?_) ?_
                          · show (fun W => StF w W g cc N (if (dn 6 || ((0 : Nat) == 6)) then t2 else tz) (bm + 1) am bm A7 m7 c7 l7 AL BL fb fw ff ft) W'
                            rw [g6]
                            exact h
                          clear g6 e1 e2 e3
                          obtain rfl : l = [] := hl.symm.trans (by kernel_rfl)
                          clear hp hl
                          refine opgoal (_) (some 162) rfl rfl fun K hK => ?_
                          refine Runs.mk ?_
                          simp only [putAll]
                          go_simp
                          refine hK _ _ ?_ hS ⟨fun h => absurd h (by decide), fun h6 => ((fun w => trivial) W)⟩ _ rfl rfl
                          first | rfl | go_simp | simp
                        · -- 1: Op.fieldAddr 39 (Operand.tmp 23) 2
                          intro l hl vs W dn e1 e2 e3 hS hR hp
                          have f6 : dn 6 = false := e3 6 (by kernel_rfl)
                          replace hS : (fun W => StF w W g cc N (if (dn 6) then t2 else tz) (bm + 1) am bm A7 m7 c7 l7 AL BL fb fw ff ft) W := hS
                          rw [f6] at hS
                          have g6 : (dn 6 || ((1 : Nat) == 6)) = false := by rw [f6]; rfl
                          refine OpGoal.imp (S1 := fun W => StF w W g cc N (if false then t2 else tz) (bm + 1) am bm A7 m7 c7 l7 AL BL fb fw ff ft) (fun W' h => ?_) ?_
                          · show (fun W => StF w W g cc N (if (dn 6 || ((1 : Nat) == 6)) then t2 else tz) (bm + 1) am bm A7 m7 c7 l7 AL BL fb fw ff ft) W'
                            rw [g6]
                            exact h
                          clear g6 e1 e2 e3
                          obtain rfl : l = [] := hl.symm.trans (by kernel_rfl)
                          clear hp hl
                          refine opgoal (_) (some 163) rfl rfl fun K hK => ?_
                          refine Runs.mk ?_
                          simp only [putAll]
                          go_simp
                          refine hK _ _ ?_ hS ⟨fun h => absurd h (by decide), fun h6 => ((fun w => trivial) W)⟩ _ rfl rfl
                          first | rfl | go_simp | simp
                        · -- 2: Op.load 3 (Operand.tmp 163)
                          intro l hl vs W dn e1 e2 e3 hS hR hp
                          have f6 : dn 6 = false := e3 6 (by kernel_rfl)
                          replace hS : (fun W => StF w W g cc N (if (dn 6) then t2 else tz) (bm + 1) am bm A7 m7 c7 l7 AL BL fb fw ff ft) W := hS
                          rw [f6] at hS
                          have g6 : (dn 6 || ((2 : Nat) == 6)) = false := by rw [f6]; rfl
                          refine OpGoal.imp (S1 := fun W => StF w W g cc N (if false then t2 else tz) (bm + 1) am bm A7 m7 c7 l7 AL BL fb fw ff ft) (fun W' h => ?_) ?_
                          · show (fun W => StF w W g cc N (if (dn 6 || ((2 : Nat) == 6)) then t2 else tz) (bm + 1) am bm A7 m7 c7 l7 AL BL fb fw ff ft) W'
                            rw [g6]
                            exact h
                          clear g6 e1 e2 e3
                          obtain rfl : l = [(1, 163)] := hl.symm.trans (by kernel_rfl)
                          have p1 : vs 1 = _ := hp 1 (by decide) (by decide)
                          clear hp hl
                          refine opgoal (_) (some 164) rfl rfl fun K hK => ?_
                          obtain ⟨f0, f1, f2⟩ := hS.cells
                          refine Runs.mk ?_
                          simp only [putAll]
                          go_simp
                          refine hK _ _ ?_ hS ⟨fun h => absurd h (by decide), fun h6 => ((fun w => trivial) W)⟩ _ rfl rfl
                          first | rfl | go_simp | simp
                        · -- 3: Op.indexAddr 24 (Operand.tmp 162) (Operand.tmp 164)
                          intro l hl vs W dn e1 e2 e3 hS hR hp
                          have f6 : dn 6 = false := e3 6 (by kernel_rfl)
                          replace hS : (fun W => StF w W g cc N (if (dn 6) then t2 else tz) (bm + 1) am bm A7 m7 c7 l7 AL BL fb fw ff ft) W := hS
                          rw [f6] at hS
                          have g6 : (dn 6 || ((3 : Nat) == 6)) = false := by rw [f6]; rfl
                          refine OpGoal.imp (S1 := fun W => StF w W g cc N (if false then t2 else tz) (bm + 1) am bm A7 m7 c7 l7 AL BL fb fw ff ft) (fun W' h => ?_) ?_
                          · show (fun W => StF w W g cc N (if (dn 6 || ((3 : Nat) == 6)) then t2 else tz) (bm + 1) am bm A7 m7 c7 l7 AL BL fb fw ff ft) W'
                            rw [g6]
                            exact h
                          clear g6 e1 e2 e3
                          obtain rfl : l = [(0, 162), (1, 163), (2, 164)] := hl.symm.trans (by kernel_rfl)
                          have p0 : vs 0 = _ := hp 0 (by decide) (by decide)
                          have p2 : vs 2 = _ := hp 2 (by decide) (by decide)
                          clear hp hl
                          refine opgoal (_) (some 165) rfl rfl fun K hK => ?_
                          have hft9 : (ft : Int) < (N : Int) + 1 := by omega
                          refine Runs.mk ?_
                          simp only [putAll]
                          go_simp
                          refine hK _ _ ?_ hS ⟨fun h => absurd h (by decide), fun h6 => ((fun w => trivial) W)⟩ _ rfl rfl
                          first | rfl | go_simp | simp
                        · -- 4: Op.fieldAddr 39 (Operand.tmp 23) 1
                          intro l hl vs W dn e1 e2 e3 hS hR hp
                          have f6 : dn 6 = false := e3 6 (by kernel_rfl)
                          replace hS : (fun W => StF w W g cc N (if (dn 6) then t2 else tz) (bm + 1) am bm A7 m7 c7 l7 AL BL fb fw ff ft) W := hS
                          rw [f6] at hS
                          have g6 : (dn 6 || ((4 : Nat) == 6)) = false := by rw [f6]; rfl
                          refine OpGoal.imp (S1 := fun W => StF w W g cc N (if false then t2 else tz) (bm + 1) am bm A7 m7 c7 l7 AL BL fb fw ff ft) (fun W' h => ?_) ?_
                          · show (fun W => StF w W g cc N (if (dn 6 || ((4 : Nat) == 6)) then t2 else tz) (bm + 1) am bm A7 m7 c7 l7 AL BL fb fw ff ft) W'
                            rw [g6]
                            exact h
                          clear g6 e1 e2 e3
                          obtain rfl : l = [] := hl.symm.trans (by kernel_rfl)
                          clear hp hl
                          refine opgoal (_) (some 166) rfl rfl fun K hK => ?_
                          refine Runs.mk ?_
                          simp only [putAll]
                          go_simp
                          refine hK _ _ ?_ hS ⟨fun h => absurd h (by decide), fun h6 => ((fun w => trivial) W)⟩ _ rfl rfl
                          first | rfl | go_simp | simp
                        · -- 5: Op.load 3 (Operand.tmp 166)
                          intro l hl vs W dn e1 e2 e3 hS hR hp
                          have f6 : dn 6 = false := e3 6 (by kernel_rfl)
                          replace hS : (fun W => StF w W g cc N (if (dn 6) then t2 else tz) (bm + 1) am bm A7 m7 c7 l7 AL BL fb fw ff ft) W := hS
                          rw [f6] at hS
                          have g6 : (dn 6 || ((5 : Nat) == 6)) = false := by rw [f6]; rfl
                          refine OpGoal.imp (S1 := fun W => StF w W g cc N (if false then t2 else tz) (bm + 1) am bm A7 m7 c7 l7 AL BL fb fw ff ft) (fun W' h => ?_) ?_
                          · show (fun W => StF w W g cc N (if (dn 6 || ((5 : Nat) == 6)) then t2 else tz) (bm + 1) am bm A7 m7 c7 l7 AL BL fb fw ff ft) W'
                            rw [g6]
                            exact h
                          clear g6 e1 e2 e3
                          obtain rfl : l = [(4, 166)] := hl.symm.trans (by kernel_rfl)
                          have p4 : vs 4 = _ := hp 4 (by decide) (by decide)
                          clear hp hl
                          refine opgoal (_) (some 167) rfl rfl fun K hK => ?_
                          obtain ⟨f0, f1, f2⟩ := hS.cells
                          refine Runs.mk ?_
                          simp only [putAll]
                          go_simp
                          refine hK _ _ ?_ hS ⟨fun h => absurd h (by decide), fun h6 => ((fun w => trivial) W)⟩ _ rfl rfl
                          first | rfl | go_simp | simp
                        · -- 6: Op.call { callee := Callee.value (Operand.func 10), args := #[Operand.tmp 165, Operand.tmp 167], argTypes := #[29, 3] }
                          intro l hl vs W dn e1 e2 e3 hS hR hp
                          have f6 : dn 6 = false := e1
                          replace hS : (fun W => StF w W g cc N (if (dn 6) then t2 else tz) (bm + 1) am bm A7 m7 c7 l7 AL BL fb fw ff ft) W := hS
                          rw [f6] at hS
                          have g6 : (dn 6 || ((6 : Nat) == 6)) = true := by rw [f6]; rfl
                          refine OpGoal.imp (S1 := fun W => StF w W g cc N (if true then t2 else tz) (bm + 1) am bm A7 m7 c7 l7 AL BL fb fw ff ft) (fun W' h => ?_) ?_
                          · show (fun W => StF w W g cc N (if (dn 6 || ((6 : Nat) == 6)) then t2 else tz) (bm + 1) am bm A7 m7 c7 l7 AL BL fb fw ff ft) W'
                            rw [g6]
                            exact h
                          clear g6 e1 e2 e3
                          obtain rfl : l = [(0, 162), (1, 163), (2, 164), (3, 165), (4, 166), (5, 167)] := hl.symm.trans (by kernel_rfl)
                          have p3 : vs 3 = _ := hp 3 (by decide) (by decide)
                          have p5 : vs 5 = _ := hp 5 (by decide) (by decide)
                          clear hp hl
                          refine opgoal (_) (some 168) rfl rfl fun K hK => ?_
                          refine Runs.mk ?_
                          simp only [putAll]
                          go_simp
                          refine (HCALL.out W hS).mono ?_
                          rintro e w' ⟨rfl, hn⟩
                          go_simp
                          exact hK _ _ rfl hn ⟨fun _ => trivial, fun h => absurd rfl h⟩ _ rfl rfl
                        · -- 7: Op.move (Operand.tmp 168)
                          intro l hl vs W dn e1 e2 e3 hS hR hp
                          have f6 : dn 6 = true := e2 6 (by kernel_rfl)
                          replace hS : (fun W => StF w W g cc N (if (dn 6) then t2 else tz) (bm + 1) am bm A7 m7 c7 l7 AL BL fb fw ff ft) W := hS
                          rw [f6] at hS
                          have g6 : (dn 6 || ((7 : Nat) == 6)) = true := by rw [f6]; rfl
                          refine OpGoal.imp (S1 := fun W => StF w W g cc N (if true then t2 else tz) (bm + 1) am bm A7 m7 c7 l7 AL BL fb fw ff ft) (fun W' h => ?_) ?_
                          · show (fun W => StF w W g cc N (if (dn 6 || ((7 : Nat) == 6)) then t2 else tz) (bm + 1) am bm A7 m7 c7 l7 AL BL fb fw ff ft) W'
                            rw [g6]
                            exact h
                          clear g6 e1 e2 e3
                          obtain rfl : l = [(0, 162), (1, 163), (2, 164), (3, 165), (4, 166), (5, 167), (6, 168)] := hl.symm.trans (by kernel_rfl)
                          have p6 : vs 6 = _ := hp 6 (by decide) (by decide)
                          clear hp hl
                          refine opgoal ({ dst := some 161, op := Op.move (Operand.tmp 168), type := 32, pos := "law.go:208", after := #[{ on := 6, ground := Ground.data }], guard := none }) (some 161) rfl rfl fun K hK => ?_
                          refine runs_move (wanted_none rfl) (.tmp 168) rfl (.tuple #[.int .i64 tv, .bool gv, .int .i64 0]) (eval_putAll (j := 6) (by simp) (by decide) (by intro k hk; simpa using hk) p6) ?_
                          exact hK _ _ rfl hS ⟨fun h => absurd h (by decide), fun _ => trivial⟩ _ put_dfs (put_slot (by simp))
                        · -- 8: Op.extract (Operand.tmp 161) 0
                          intro l hl vs W dn e1 e2 e3 hS hR hp
                          have f6 : dn 6 = true := e2 6 (by kernel_rfl)
                          replace hS : (fun W => StF w W g cc N (if (dn 6) then t2 else tz) (bm + 1) am bm A7 m7 c7 l7 AL BL fb fw ff ft) W := hS
                          rw [f6] at hS
                          have g6 : (dn 6 || ((8 : Nat) == 6)) = true := by rw [f6]; rfl
                          refine OpGoal.imp (S1 := fun W => StF w W g cc N (if true then t2 else tz) (bm + 1) am bm A7 m7 c7 l7 AL BL fb fw ff ft) (fun W' h => ?_) ?_
                          · show (fun W => StF w W g cc N (if (dn 6 || ((8 : Nat) == 6)) then t2 else tz) (bm + 1) am bm A7 m7 c7 l7 AL BL fb fw ff ft) W'
                            rw [g6]
                            exact h
                          clear g6 e1 e2 e3
                          obtain rfl : l = [(0, 162), (1, 163), (2, 164), (3, 165), (4, 166), (5, 167), (6, 168), (7, 161)] := hl.symm.trans (by kernel_rfl)
                          have p7 : vs 7 = _ := hp 7 (by decide) (by decide)
                          clear hp hl
                          refine opgoal ({ dst := some 169, op := Op.extract (Operand.tmp 161) 0, type := 3, pos := "law.go:208", after := #[{ on := 7, ground := Ground.data }], guard := none }) (some 169) rfl rfl fun K hK => ?_
                          refine runs_extract (wanted_none rfl) (.tmp 161) 0 rfl #[.int .i64 tv, .bool gv, .int .i64 0] (.int .i64 tv) (eval_putAll (j := 7) (by simp) (by decide) (by intro k hk; simpa using hk) p7) rfl ?_
                          exact hK _ _ rfl hS ⟨fun h => absurd h (by decide), fun _ => trivial⟩ _ put_dfs (put_slot (by simp))
                        · -- 9: Op.extract (Operand.tmp 161) 1
                          intro l hl vs W dn e1 e2 e3 hS hR hp
                          have f6 : dn 6 = true := e2 6 (by kernel_rfl)
                          replace hS : (fun W => StF w W g cc N (if (dn 6) then t2 else tz) (bm + 1) am bm A7 m7 c7 l7 AL BL fb fw ff ft) W := hS
                          rw [f6] at hS
                          have g6 : (dn 6 || ((9 : Nat) == 6)) = true := by rw [f6]; rfl
                          refine OpGoal.imp (S1 := fun W => StF w W g cc N (if true then t2 else tz) (bm + 1) am bm A7 m7 c7 l7 AL BL fb fw ff ft) (fun W' h => ?_) ?_
                          · show (fun W => StF w W g cc N (if (dn 6 || ((9 : Nat) == 6)) then t2 else tz) (bm + 1) am bm A7 m7 c7 l7 AL BL fb fw ff ft) W'
                            rw [g6]
                            exact h
                          clear g6 e1 e2 e3
                          obtain rfl : l = [(0, 162), (1, 163), (2, 164), (3, 165), (4, 166), (5, 167), (6, 168), (7, 161)] := hl.symm.trans (by kernel_rfl)
                          have p7 : vs 7 = _ := hp 7 (by decide) (by decide)
                          clear hp hl
                          refine opgoal ({ dst := some 170, op := Op.extract (Operand.tmp 161) 1, type := 4, pos := "law.go:208", after := #[{ on := 7, ground := Ground.data }, { on := 11, ground := Ground.gcOnly Departure.lateStores }], guard := none }) (some 170) rfl rfl fun K hK => ?_
                          refine runs_extract (wanted_none rfl) (.tmp 161) 1 rfl #[.int .i64 tv, .bool gv, .int .i64 0] (.bool gv) (eval_putAll (j := 7) (by simp) (by decide) (by intro k hk; simpa using hk) p7) rfl ?_
                          exact hK _ _ rfl hS ⟨fun h => absurd h (by decide), fun _ => trivial⟩ _ put_dfs (put_slot (by simp))
                        · -- 10: Op.extract (Operand.tmp 161) 2
                          intro l hl vs W dn e1 e2 e3 hS hR hp
                          have f6 : dn 6 = true := e2 6 (by kernel_rfl)
                          replace hS : (fun W => StF w W g cc N (if (dn 6) then t2 else tz) (bm + 1) am bm A7 m7 c7 l7 AL BL fb fw ff ft) W := hS
                          rw [f6] at hS
                          have g6 : (dn 6 || ((10 : Nat) == 6)) = true := by rw [f6]; rfl
                          refine OpGoal.imp (S1 := fun W => StF w W g cc N (if true then t2 else tz) (bm + 1) am bm A7 m7 c7 l7 AL BL fb fw ff ft) (fun W' h => ?_) ?_
                          · show (fun W => StF w W g cc N (if (dn 6 || ((10 : Nat) == 6)) then t2 else tz) (bm + 1) am bm A7 m7 c7 l7 AL BL fb fw ff ft) W'
                            rw [g6]
                            exact h
                          clear g6 e1 e2 e3
                          obtain rfl : l = [(0, 162), (1, 163), (2, 164), (3, 165), (4, 166), (5, 167), (6, 168), (7, 161)] := hl.symm.trans (by kernel_rfl)
                          have p7 : vs 7 = _ := hp 7 (by decide) (by decide)
                          clear hp hl
                          refine opgoal ({ dst := some 171, op := Op.extract (Operand.tmp 161) 2, type := 31, pos := "law.go:208", after := #[{ on := 7, ground := Ground.data }, { on := 12, ground := Ground.gcOnly Departure.lateStores }], guard := none }) (some 171) rfl rfl fun K hK => ?_
                          refine runs_extract (wanted_none rfl) (.tmp 161) 2 rfl #[.int .i64 tv, .bool gv, .int .i64 0] (.int .i64 0) (eval_putAll (j := 7) (by simp) (by decide) (by intro k hk; simpa using hk) p7) rfl ?_
                          exact hK _ _ rfl hS ⟨fun h => absurd h (by decide), fun _ => trivial⟩ _ put_dfs (put_slot (by simp))
                        · -- 11: Op.assign (Operand.tmp 169)
                          intro l hl vs W dn e1 e2 e3 hS hR hp
                          have f6 : dn 6 = true := e2 6 (by kernel_rfl)
                          replace hS : (fun W => StF w W g cc N (if (dn 6) then t2 else tz) (bm + 1) am bm A7 m7 c7 l7 AL BL fb fw ff ft) W := hS
                          rw [f6] at hS
                          have g6 : (dn 6 || ((11 : Nat) == 6)) = true := by rw [f6]; rfl
                          refine OpGoal.imp (S1 := fun W => StF w W g cc N (if true then t2 else tz) (bm + 1) am bm A7 m7 c7 l7 AL BL fb fw ff ft) (fun W' h => ?_) ?_
                          · show (fun W => StF w W g cc N (if (dn 6 || ((11 : Nat) == 6)) then t2 else tz) (bm + 1) am bm A7 m7 c7 l7 AL BL fb fw ff ft) W'
                            rw [g6]
                            exact h
                          clear g6 e1 e2 e3
                          obtain rfl : l = [(0, 162), (1, 163), (2, 164), (3, 165), (4, 166), (5, 167), (6, 168), (7, 161), (8, 169)] := hl.symm.trans (by kernel_rfl)
                          have p8 : vs 8 = _ := hp 8 (by decide) (by decide)
                          clear hp hl
                          refine opgoal ({ dst := some 24, op := Op.assign (Operand.tmp 169), type := 3, pos := "law.go:208", after := #[{ on := 8, ground := Ground.data }, { on := 6, ground := Ground.chain }, { on := 0, ground := Ground.phase }, { on := 1, ground := Ground.phase }, { on := 2, ground := Ground.phase }, { on := 3, ground := Ground.phase }, { on := 4, ground := Ground.phase }, { on := 5, ground := Ground.phase }, { on := 6, ground := Ground.phase }, { on := 7, ground := Ground.phase }, { on := 8, ground := Ground.phase }, { on := 9, ground := Ground.textOnly Departure.lateStores }, { on := 10, ground := Ground.textOnly Departure.lateStores }], guard := none }) (some 24) rfl rfl fun K hK => ?_
                          refine runs_assign (wanted_none rfl) (.tmp 169) rfl (.int .i64 tv) (eval_putAll (j := 8) (by simp) (by decide) (by intro k hk; simpa using hk) p8) ?_
                          exact hK _ _ rfl hS ⟨fun h => absurd h (by decide), fun _ => trivial⟩ _ put_dfs (put_slot (by simp))
                        · -- 12: Op.assign (Operand.tmp 170)
                          intro l hl vs W dn e1 e2 e3 hS hR hp
                          have f6 : dn 6 = true := e2 6 (by kernel_rfl)
                          replace hS : (fun W => StF w W g cc N (if (dn 6) then t2 else tz) (bm + 1) am bm A7 m7 c7 l7 AL BL fb fw ff ft) W := hS
                          rw [f6] at hS
                          have g6 : (dn 6 || ((12 : Nat) == 6)) = true := by rw [f6]; rfl
                          refine OpGoal.imp (S1 := fun W => StF w W g cc N (if true then t2 else tz) (bm + 1) am bm A7 m7 c7 l7 AL BL fb fw ff ft) (fun W' h => ?_) ?_
                          · show (fun W => StF w W g cc N (if (dn 6 || ((12 : Nat) == 6)) then t2 else tz) (bm + 1) am bm A7 m7 c7 l7 AL BL fb fw ff ft) W'
                            rw [g6]
                            exact h
                          clear g6 e1 e2 e3
                          obtain rfl : l = [(0, 162), (1, 163), (2, 164), (3, 165), (4, 166), (5, 167), (6, 168), (7, 161), (8, 169), (9, 170), (11, 24)] := hl.symm.trans (by kernel_rfl)
                          have p9 : vs 9 = _ := hp 9 (by decide) (by decide)
                          clear hp hl
                          refine opgoal ({ dst := some 25, op := Op.assign (Operand.tmp 170), type := 4, pos := "law.go:208", after := #[{ on := 9, ground := Ground.data }, { on := 11, ground := Ground.chain }, { on := 0, ground := Ground.phase }, { on := 1, ground := Ground.phase }, { on := 2, ground := Ground.phase }, { on := 3, ground := Ground.phase }, { on := 4, ground := Ground.phase }, { on := 5, ground := Ground.phase }, { on := 6, ground := Ground.phase }, { on := 7, ground := Ground.phase }, { on := 8, ground := Ground.phase }, { on := 9, ground := Ground.phase }, { on := 10, ground := Ground.textOnly Departure.lateStores }, { on := 11, ground := Ground.phase }], guard := none }) (some 25) rfl rfl fun K hK => ?_
                          refine runs_assign (wanted_none rfl) (.tmp 170) rfl (.bool gv) (eval_putAll (j := 9) (by simp) (by decide) (by intro k hk; simpa using hk) p9) ?_
                          exact hK _ _ rfl hS ⟨fun h => absurd h (by decide), fun _ => trivial⟩ _ put_dfs (put_slot (by simp))
                        · -- 13: Op.assign (Operand.tmp 171)
                          intro l hl vs W dn e1 e2 e3 hS hR hp
                          have f6 : dn 6 = true := e2 6 (by kernel_rfl)
                          replace hS : (fun W => StF w W g cc N (if (dn 6) then t2 else tz) (bm + 1) am bm A7 m7 c7 l7 AL BL fb fw ff ft) W := hS
                          rw [f6] at hS
                          have g6 : (dn 6 || ((13 : Nat) == 6)) = true := by rw [f6]; rfl
                          refine OpGoal.imp (S1 := fun W => StF w W g cc N (if true then t2 else tz) (bm + 1) am bm A7 m7 c7 l7 AL BL fb fw ff ft) (fun W' h => ?_) ?_
                          · show (fun W => StF w W g cc N (if (dn 6 || ((13 : Nat) == 6)) then t2 else tz) (bm + 1) am bm A7 m7 c7 l7 AL BL fb fw ff ft) W'
                            rw [g6]
                            exact h
                          clear g6 e1 e2 e3
                          obtain rfl : l = [(0, 162), (1, 163), (2, 164), (3, 165), (4, 166), (5, 167), (6, 168), (7, 161), (8, 169), (9, 170), (10, 171), (11, 24), (12, 25)] := hl.symm.trans (by kernel_rfl)
                          have p10 : vs 10 = _ := hp 10 (by decide) (by decide)
                          clear hp hl
                          refine opgoal ({ dst := some 26, op := Op.assign (Operand.tmp 171), type := 31, pos := "law.go:208", after := #[{ on := 10, ground := Ground.data }, { on := 12, ground := Ground.chain }, { on := 0, ground := Ground.phase }, { on := 1, ground := Ground.phase }, { on := 2, ground := Ground.phase }, { on := 3, ground := Ground.phase }, { on := 4, ground := Ground.phase }, { on := 5, ground := Ground.phase }, { on := 6, ground := Ground.phase }, { on := 7, ground := Ground.phase }, { on := 8, ground := Ground.phase }, { on := 9, ground := Ground.phase }, { on := 10, ground := Ground.phase }, { on := 11, ground := Ground.phase }, { on := 12, ground := Ground.phase }], guard := none }) (some 26) rfl rfl fun K hK => ?_
                          refine runs_assign (wanted_none rfl) (.tmp 171) rfl (.int .i64 0) (eval_putAll (j := 10) (by simp) (by decide) (by intro k hk; simpa using hk) p10) ?_
                          exact hK _ _ rfl hS ⟨fun h => absurd h (by decide), fun _ => trivial⟩ _ put_dfs (put_slot (by simp))
                      · intro l hl vs W dn hd hS hR hp
                        replace hS : (fun W => StF w W g cc N (if (dn 6) then t2 else tz) (bm + 1) am bm A7 m7 c7 l7 AL BL fb fw ff ft) W := hS
                        rw [hd 6 (by decide)] at hS
                        obtain rfl : l = [(0, 162), (1, 163), (2, 164), (3, 165), (4, 166), (5, 167), (6, 168), (7, 161), (8, 169), (9, 170), (10, 171), (11, 24), (12, 25), (13, 26)] := hl.symm.trans (by kernel_rfl)
                        have p0 : vs 0 = _ := hp 0 (by decide) (by decide)
                        have p1 : vs 1 = _ := hp 1 (by decide) (by decide)
                        have p2 : vs 2 = _ := hp 2 (by decide) (by decide)
                        have p3 : vs 3 = _ := hp 3 (by decide) (by decide)
                        have p4 : vs 4 = _ := hp 4 (by decide) (by decide)
                        have p5 : vs 5 = _ := hp 5 (by decide) (by decide)
                        have p6 : vs 6 = _ := hp 6 (by decide) (by decide)
                        have p7 : vs 7 = _ := hp 7 (by decide) (by decide)
                        have p8 : vs 8 = _ := hp 8 (by decide) (by decide)
                        have p9 : vs 9 = _ := hp 9 (by decide) (by decide)
                        have p10 : vs 10 = _ := hp 10 (by decide) (by decide)
                        have p11 : vs 11 = _ := hp 11 (by decide) (by decide)
                        have p12 : vs 12 = _ := hp 12 (by decide) (by decide)
                        have p13 : vs 13 = _ := hp 13 (by decide) (by decide)
                        clear hp hl
                        simp only [putAll_mk, setAll, List.setIfInBounds_toArray, List.set_cons_succ, List.set_cons_zero, p0, p1, p2, p3, p4, p5, p6, p7, p8, p9, p10, p11, p12, p13]
                        obtain ⟨f0, f1, f2⟩ := hS.cells
                        have HS8 := Lib.hid hS
                        clear hS hR hS0
                        obtain ⟨W8, hW8⟩ : ∃ W8, W = W8 := ⟨_, rfl⟩
                        rw [hW8] at HS8 f0 f1 f2 ⊢
                        clear hW8
                        replace HS8 : Hid (StF w W8 g cc N t2 (bm + 1) am bm A7 m7 c7 l7 AL BL fb fw ff ft) := HS8
                        have hen9 := HENDED.out.2.1
                        have hm7 := HM7.out.2
                        cases gv with
                        | false =>
                          have HNI := Lib.hid (HON.out rfl)
                          go_wp2_with (at_builtin; have hbA := below_alloc W8 (.cells #[.int .i64 fw, .int .i64 ft, .int .i64 tv] FT); have HS5 := HS8.out.st.below hbA; refine wpList_append_src _ rfl (.tmp 176) (.tmp 183) (bm + 1) 36 FT (.agg #[.int .i64 0, .int .i64 0, .int .i64 0]) 3 24 rfl (by kernel_rfl) (by kernel_rfl) rfl (by decide) (by decide) _ m7 (l7.flatMap encF) rfl HS5.row (some ⟨W8.heap.size, 0, none⟩) 1 1 rfl (fun h => by cases h) [.int .i64 fw, .int .i64 ft, .int .i64 tv] rfl (lies_block (heap_alloc_new _ _)) (by simp [Value.oneCell']) (by omega) HS5.ord.2.2.2.1 ?_; intro v1 w6 ho1 hg1 hv1; obtain ⟨A6, c6, hv6, hs6⟩ := HS5.push (F := ⟨fw, ft, tv⟩) rfl ho1 hg1; have HS6 := Lib.hid hs6; subst hv6; clear hs6 ho1 hg1 hv1 HS5 hbA)
                          go_roundg (n + 200 - (k + 1))
                          case measure => omega
                          case rel => exact ⟨k + 1, asks, ended, m7 + 1, c6, A6, _, _, _, _, rfl, rfl, rfl, rfl, by go_num, by omega, HS6, HNI⟩
                        | true =>
                          obtain ⟨hha, hhb, hnw, hni⟩ := HEND.out rfl
                          have HNI := Lib.hid hni
                          have HCB : Hid (BL.contains (ft : Int) = false) := Lib.hid hhb
                          have HBL : Hid (BL.length < 1000000) := Lib.hid (by have := HENDED.out; omega)
                          have q1 := run_lookup_set W8 37 HS8.out.st.ask HKI.out HKT.out HKB.out (HKZ.out _) (ft : Int) (i64_wf (by omega))
                          have q2 := run_lookup_set W8 37 HS8.out.st.beh HKI.out HKT.out HKB.out (HKZ.out _) (ft : Int) (i64_wf (by omega))
                          rw [show AL.contains (ft : Int) = true from hha] at q1
                          rw [HCB.out] at q2
                          have q3 : ((ft : Int) == (fw : Int)) = false := by simp; omega
                          have q4 : (ft == fw) = false := by simpa using hnw
                          clear hha hhb hni hnw
                          go_wp2_with (at_mapUpdate; refine wpList_put_set rfl (.tmp 205) (.tmp 207) _ 37 rfl HS8.out.st.beh HBL.out HKI.out HKT.out HKB.out (ft : Int) (i64_wf (by omega)) HCB.out rfl rfl rfl ?_; intro x9 hs9 hg9; have HS9 := Lib.hid (HS8.out.st.putB hs9 hg9); clear hs9 hg9)
                          go_roundg (n + 200 - (k + 1))
                          case measure => omega
                          case rel => exact ⟨k + 1, asks, ended + 1, m7, c7, A7, _, _, _, _, rfl, rfl, rfl, by go_num, by go_num, by omega, HS9, HNI⟩
      · have hke : k = n + 200 := by omega
        subst hke
        have hdk : decide (((n + 200 : Nat) : Int) < (n : Int) + 200) = false := by simp
        obtain ⟨hle, heq⟩ := HI.out.fin hN2
        have hn0 : nw = 0 := by have := HS.out.len; rw [hle] at this; simpa using this.symm
        subst hn0 heq
        clear hle
        go_wp2_with fail
        go_ret
        exact ⟨rfl, HS.out.tb.bel⟩
theorem queues_row (w : World) (a b : Int) (s : Sl Int) (ha : (Lit.int .u8 a).wf = true) (hb : (Lit.int .u8 b).wf = true) (hs : SlOk w 1 1 (fun n : Int => [.int .u8 n]) (fun n => (Lit.int .u8 n).wf = true) s) :
    Calls Try.prog 4 #[.int .u8 a, .int .u8 b, .slice s.A s.n s.c] w fun e w' => e = .returned (.bool true) ∧ Below w.heap.size w w' := by
  have h1 := bounds_u8 ha
  have h2 := bounds_u8 hb
  obtain ⟨m, rfl⟩ : ∃ k : Nat, a = (k : Int) := ⟨a.toNat, by omega⟩
  obtain ⟨o, rfl⟩ : ∃ k : Nat, b = (k : Int) := ⟨b.toNat, by omega⟩
  obtain ⟨l, hr, hl⟩ := u8s_rd hs
  exact queues_walk w m o (by omega) (by omega) s.A s.n s.c l hr hl
end Go.Proofs.Ytmddcmfleipjjaa.Ar

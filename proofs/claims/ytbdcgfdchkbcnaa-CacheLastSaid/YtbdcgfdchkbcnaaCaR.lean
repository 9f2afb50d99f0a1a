/- cache: the law CacheLast. -/
import Derived.Test.YtbdcgfdchkbcnaaCaK
import Derived.Test.YtbdcgfdchkbcnaaCaQ
import Derived.Test.YtbdcgfdchkbcnaaK
namespace Go.Proofs.Ytbdcgfdchkbcnaa.Ca
open Go.RowKit Go.Proofs.Ytbdcgfdchkbcnaa.L Go.Proofs.Ytbdcgfdchkbcnaa.O Go.Proofs.Ytbdcgfdchkbcnaa.R Go.Proofs.Ytbdcgfdchkbcnaa.A Go.Proofs.Ytbdcgfdchkbcnaa.S Go.Proofs.Ytbdcgfdchkbcnaa.T Go.Proofs.Ytbdcgfdchkbcnaa.C Go.Proofs.Ytbdcgfdchkbcnaa.G Go.Proofs.Ytbdcgfdchkbcnaa.E Go.Proofs.Ytbdcgfdchkbcnaa.F Go.Proofs.Ytbdcgfdchkbcnaa.K
set_option linter.unusedVariables false
set_option linter.unusedSimpArgs false

theorem i64_wf {n : Int} (h : -9223372036854775808 ≤ n ∧ n ≤ 9223372036854775807) : (Lit.int .i64 n).wf = true := by
  simp [Lit.wf, IntKind.min, IntKind.max, IntKind.signed, IntKind.bits]
  omega
def zz (ks : List Nat) : List Int := ks.map fun x : Nat => (x : Int)
/-- the cache's list behind some puts. -/
def lastL (N : Nat) (r : List Int) : List Ent := ((ff r).take N).reverse
theorem lastL_len (N : Nat) (r : List Int) : (lastL N r).length = min N (ff r).length := by simp [lastL]
set_option maxHeartbeats 8000000 in
set_option maxRecDepth 100000 in
theorem last_walk (w : World) (m : Nat) (hm : m < 256) (A : Option Addr) (n c : Nat) (ks : List Nat) (hr : Rd w A n (ks.map fun x : Nat => Value.int .u8 (x : Int))) (hk : ∀ x ∈ ks, x < 256) :
    Calls Try.prog 11 #[.int .u8 m, .slice A n c] w fun e w' => e = .returned (.bool true) ∧ Below w.heap.size w w' := by
  obtain ⟨N, hN⟩ : ∃ N : Nat, Hid (1 + (m : Int) % 16 = (N : Int)) := ⟨1 + m % 16, Lib.hid (by omega)⟩
  have hN1 : 0 < N := by have := hN.out; omega
  have hN2 : N ≤ 16 := by have := hN.out; omega
  have hn9 := hr.2.1
  have hlen : ks.length = n := by simpa using hr.len
  have HL := Lib.hid hlen
  have HR := Lib.hid hr
  have HK := Lib.hid hk
  have HA := Lib.hid (awake_any w)
  have hki : Try.prog.underlying 3 = some (.int .i64) := by kernel_rfl
  have hkt : Try.prog.underlying 70 = some (.map 3 4) := by kernel_rfl
  have hkb : Try.prog.underlying 4 = some .bool := by kernel_rfl
  have hkz : ∀ w : World, (zeroValue 4).run Try.prog w = .ok (.bool false) w := fun w => by kernel_rfl
  have hmm := @run_makeMap Try.prog
  have HKI := Lib.hid hki
  have HKT := Lib.hid hkt
  have HKB := Lib.hid hkb
  have HKZ := Lib.hid hkz
  clear hr hk hlen hki hkt hkb hkz
  by_cases hbig : 60 < n
  · have hd : decide ((60 : Int) < (n : Int)) = true := by simp; omega
    go_enter Try.func11, Try.ntmps11
    go_wp2_with fail
    refine HA.out.mono ?_
    rintro e w1 ⟨rfl, hb1⟩
    go_wp2
    go_ret
    exact ⟨rfl, hb1⟩
  · have hd : decide ((60 : Int) < (n : Int)) = false := by simp; omega
    go_enter Try.func11, Try.ntmps11
    go_wp2_with fail
    refine HA.out.mono ?_
    rintro e w1 ⟨rfl, hb1⟩
    have HNW := Lib.hid (cs_new w w1 hb1 N hN1 hN2)
    have HB1 := Lib.hid hb1
    clear hb1
    go_wp2_with (rw [hN.out])
    refine HNW.out.mono ?_
    rintro e w2 ⟨b, rfl, hc2, -, -⟩
    have HC2 := Lib.hid hc2
    clear hc2 hd
    go_wp2_with fail
    go_loopw [33] (fun i wr => ∃ k : Nat, k ≤ n ∧ i = .int .i64 k ∧ CS w wr b N (lastL N (zz (ks.take k)).reverse)) (fun i _ => n - (intOf i).toNat)
    case atStart => exact ⟨0, by omega, rfl, by simpa [lastL, zz, ff] using HC2.out⟩
    case round =>
      obtain ⟨k, hkn, rfl, hcs⟩ := hrel
      by_cases hlt : k < n
      · have hkl : k < ks.length := by have := HL.out; omega
        obtain ⟨z, hz⟩ : ∃ z : Nat, Hid (ks[k] = z) := ⟨_, Lib.hid rfl⟩
        have hr := HR.out.keep (Keep.of_below hcs.bel) (S := []) (by simp)
        obtain ⟨ab, ao, hA, hc⟩ := hr.2.2 (by omega)
        subst hA
        have hcell := hc k hlt
        rw [List.getElem?_map, List.getElem?_eq_getElem hkl, hz.out, Option.map_some] at hcell
        have hz9 : z < 256 := by rw [← hz.out]; exact HK.out _ (List.getElem_mem _)
        have hrl : (zz (ks.take k)).reverse.length = k := by simp [zz]; omega
        have hput := put_ff N hN1 (zz (ks.take k)).reverse (z : Int)
        rw [hrl] at hput
        have hnx : (zz (ks.take (k + 1))).reverse = (z : Int) :: (zz (ks.take k)).reverse := by
          rw [List.take_add_one, List.getElem?_eq_getElem hkl, hz.out]
          simp [zz]
        have hll : (lastL N (zz (ks.take k)).reverse).length ≤ N := by rw [lastL_len]; omega
        have hp := cs_put1 hcs hll hN1 (by omega) (entK (z : Int) k) rfl
        rw [show putL N (entK (z : Int) k) (lastL N (zz (ks.take k)).reverse) = (lastL N (zz (ks.take (k + 1))).reverse, true) by rw [hnx]; exact hput] at hp
        have HP := Lib.hid hp
        clear hc hr hput hp hcs hll hrl hnx hz
        dsimp only [entK] at HP
        go_wp2_with fail
        refine HP.out.mono ?_
        rintro e w3 ⟨rfl, hc3⟩
        have HC3 := Lib.hid hc3
        clear hc3
        go_wp2
        go_roundw
        case rel => exact ⟨k + 1, by omega, by go_num, HC3.out⟩
        case measure => simp [intOf]; omega
      · obtain rfl : k = n := by omega
        rw [List.take_of_length_le (by have := HL.out; omega)] at hcs
        obtain ⟨R, hRR⟩ : ∃ R, Hid ((zz ks).reverse = R) := ⟨_, Lib.hid rfl⟩
        rw [hRR.out] at hcs
        obtain ⟨v, hv⟩ := hcs.ca
        have hvb := hv.ne
        have hlb := hv.lt
        have hnm := set_made (P := Try.prog) (k := 3) (e := 4) wr
        obtain ⟨W, hW⟩ : ∃ W, Hid (wr.alloc (.map #[] 0) = W) := ⟨_, Lib.hid rfl⟩
        rw [hW.out] at hnm
        have hbW : Below wr.heap.size wr W := by rw [← hW.out]; exact below_alloc _ _
        have HS0 := Lib.hid (And.intro (hv.below hbW) (And.intro (hcs.bel.trans (hbW.mono hcs.bel.size)) hnm))
        have hbase := hcs.base
        have hmbw : w.heap.size ≤ wr.heap.size := hcs.bel.size
        obtain ⟨mb, hmb⟩ : ∃ mb, wr.heap.size = mb := ⟨_, rfl⟩
        rw [hmb] at HS0 hvb hlb hmbw
        have HVB := Lib.hid hvb
        have HMB := Lib.hid hmb
        clear hv hcs hnm hbW hmb hvb
        go_wp2_with fail
        rw [hW.out, HMB.out]
        clear hmm
        have hFU := ff_uniq R
        have HLL := lastL_len N R
        go_loopw [11] (fun i wx => ∃ (j : Nat) (S : List Int) (D : List Ent), j ≤ k ∧ i = .int .i64 ((j : Int) - 1) ∧ Ca CT ET wx b N v (lastL N R) ∧ Below w.heap.size w wx ∧ NumSet Try.prog wx 3 4 mb S ∧ S.length + j ≤ k ∧ Hid (ff R = D ++ (ff (zz (ks.take j)).reverse).filter (fun e => !S.contains e.1) ∧ D.length = S.length)) (fun i _ => (intOf i + 1).toNat)
        case atStart =>
          refine ⟨k, [], [], by omega, by first | rfl | go_num, HS0.out.1, HS0.out.2.1, HS0.out.2.2, by simp, Lib.hid ⟨?_, rfl⟩⟩
          rw [List.take_of_length_le (by have := HL.out; omega), hRR.out, List.nil_append]
          exact (List.filter_eq_self.2 (by simp)).symm
        case round =>
          obtain ⟨j, S, D, hjk, rfl, hv, hbx, hset, hSl, hD⟩ := hrel
          have hlu : ∀ (x : Int), (Lit.int .i64 x).wf = true → (Instr.lookup 70 (.map (some mb)) (.int .i64 x) false).run Try.prog wr = .ok (.bool (S.contains x)) wr := fun x hx => run_lookup_set wr 70 hset HKI.out HKT.out HKB.out (HKZ.out _) x hx
          by_cases hj : 0 < j
          · obtain ⟨q, rfl⟩ : ∃ q, j = q + 1 := ⟨j - 1, by omega⟩
            have hji : ((q + 1 : Nat) : Int) - 1 = (q : Int) := by omega
            rw [hji]
            clear hji hlu
            have hkl : q < ks.length := by have := HL.out; omega
            obtain ⟨z, hz⟩ : ∃ z : Nat, Hid (ks[q] = z) := ⟨_, Lib.hid rfl⟩
            have hr := HR.out.keep (Keep.of_below hbx) (S := []) (by simp)
            obtain ⟨ab, ao, hA, hc⟩ := hr.2.2 (by omega)
            subst hA
            have hcell := hc q (by omega)
            rw [List.getElem?_map, List.getElem?_eq_getElem hkl, hz.out, Option.map_some] at hcell
            have hz9 : z < 256 := by rw [← hz.out]; exact HK.out _ (List.getElem_mem _)
            have hnx : (zz (ks.take (q + 1))).reverse = (z : Int) :: (zz (ks.take q)).reverse := by
              rw [List.take_add_one, List.getElem?_eq_getElem hkl, hz.out]
              simp [zz]
            have hrl : (zz (ks.take q)).reverse.length = q := by simp [zz]; omega
            obtain ⟨⟨⟨y1, y2, y3, y4⟩, t⟩, hp⟩ : ∃ r, peekL (z : Int) (lastL N R) = r := ⟨_, rfl⟩
            have hpk := peek_any b N v (lastL N R) (z : Int) wr hv (by rw [HLL]; omega)
            rw [hp] at hpk
            dsimp only [aggE] at hpk
            have HPK := Lib.hid hpk
            have HD := Lib.hid hD.out
            rw [hnx] at HD
            have HV := Lib.hid hv
            have HBX := Lib.hid hbx
            have HSET := Lib.hid hset
            have HPE := Lib.hid hp
            have HRL := Lib.hid hrl
            have HFU := Lib.hid hFU
            have HLN := Lib.hid HLL
            clear hc hr hnx hpk hp hv hbx hset hD hrl hFU HLL
            cases hc : S.contains (z : Int) with
            | true =>
              have hst := Lib.hid (ff_step_seen (z : Int) (zz (ks.take q)).reverse S hc)
              have HC := Lib.hid hc
              clear hc
              go_wp2_with fail
              refine HPK.out.mono ?_
              rintro e x1 ⟨rfl, hb1⟩
              have HB2 := Lib.hid (below2 hb1 (below_alloc x1 (.cells #[.int .i64 y1, .int .i64 y2, .int .i64 y3, .int .i64 y4] 77)))
              have HS2 := Lib.hid (HSET.out.keep (Keep.of_below (S := []) HB2.out) (by simp))
              clear hb1
              go_wp2_with (at_lookup; refine wpList_lookup_set rfl (.tmp 67) (.tmp 68) 70 rfl HS2.out HKI.out HKT.out HKB.out (HKZ.out _) (z : Int) (i64_wf (by omega)) rfl rfl ?_; rw [HC.out])
              go_roundw
              case rel => exact ⟨q, S, D, by omega, by first | rfl | go_num, HV.out.below HB2.out, HBX.out.trans (HB2.out.mono HBX.out.size), HS2.out, by omega, Lib.hid ⟨by rw [HD.out.1, hst.out], HD.out.2⟩⟩
              case measure => simp [intOf]
            | false =>
              have hst := ff_step_new (z : Int) (zz (ks.take q)).reverse S hc
              rw [HRL.out] at hst
              have hFE : ff R = D ++ entK (z : Int) q :: (ff (zz (ks.take q)).reverse).filter (fun e => !(S ++ [(z : Int)]).contains e.1) := by rw [HD.out.1, hst]
              have hpe := peek_ff N (ff R) D _ _ HFU.out hFE
              have hpe' : peekL (z : Int) (lastL N R) = if S.length < N then (entK (z : Int) q, true) else (z0, false) := by rw [← HD.out.2]; exact hpe
              rw [HPE.out] at hpe'
              have HC := Lib.hid hc
              have HFE := Lib.hid hFE
              obtain ⟨sl, hsl⟩ : ∃ sl, Hid (S.length = sl) := ⟨_, Lib.hid rfl⟩
              have hsl9 : sl + q + 1 ≤ k := by have := hsl.out; omega
              rw [hsl.out] at hpe'
              have hsm : Hid (S.length < 1000000) := Lib.hid (by have := hsl.out; omega)
              clear hc hst hFE hpe hSl
              by_cases hlt : sl < N
              · rw [if_pos hlt] at hpe'
                obtain ⟨he, rfl⟩ := Prod.mk.inj hpe'
                simp only [entK, Prod.mk.injEq] at he
                obtain ⟨rfl, rfl, rfl, rfl⟩ := he
                have hd : decide ((sl : Int) < (N : Int)) = true := by simp; omega
                have heq := en_eq (z : Int) (q : Int) (q : Int) 0
                have hg := en_guard
                clear hpe'
                go_wp2_with fail
                refine HPK.out.mono ?_
                rintro e x1 ⟨rfl, hb1⟩
                have HB2 := Lib.hid (below2 hb1 (below_alloc x1 (.cells #[.int .i64 (z : Int), .int .i64 (q : Int), .int .i64 (q : Int), .int .i64 0] 77)))
                have HB1 := Lib.hid hb1
                have HS2 := Lib.hid (HSET.out.keep (Keep.of_below (S := []) HB2.out) (by simp))
                clear hb1
                go_wp2_with (first | (at_lookup; refine wpList_lookup_set rfl (.tmp 67) (.tmp 68) 70 rfl HS2.out HKI.out HKT.out HKB.out (HKZ.out _) (z : Int) (i64_wf (by omega)) rfl rfl ?_; rw [HC.out]) | (at_len; refine wpList_len_set rfl (.tmp 71) 70 rfl HS2.out HKT.out rfl ?_; rw [hsl.out]) | (at_mapUpdate; refine wpList_put_set rfl (.tmp 87) (.tmp 88) _ 70 rfl HS2.out hsm.out HKI.out HKT.out HKB.out (z : Int) (i64_wf (by omega)) HC.out rfl rfl rfl ?_; intro x2 hs2 hg2))
                go_roundw
                case rel =>
                  have hk2 : Keep [mb] x1 x2 := (Keep.of_below (S := [mb]) (below_alloc x1 (.cells #[.int .i64 (z : Int), .int .i64 (q : Int), .int .i64 (q : Int), .int .i64 0] 77))).trans (keep_grown hg2 [mb] (fun k hk _ => by cases hk; simp))
                  have hk3 : Keep [mb] wr x2 := (Keep.of_below HB1.out).trans hk2
                  refine ⟨q, S ++ [(z : Int)], D ++ [entK (z : Int) q], by omega, by first | rfl | go_num, HV.out.keep hk3 (by simp; omega) (fun k hk => by have := (HVB.out k hk).2; simp; omega), HBX.out.trans (hk3.below HBX.out.size (by simpa using hmbw)), hs2, by rw [List.length_append, hsl.out]; simp; omega, Lib.hid ⟨by rw [HFE.out]; simp, by rw [List.length_append, List.length_append, HD.out.2]; rfl⟩⟩
                case measure => simp [intOf]
              · rw [if_neg hlt] at hpe'
                obtain ⟨he, rfl⟩ := Prod.mk.inj hpe'
                simp only [z0, Prod.mk.injEq] at he
                obtain ⟨rfl, rfl, rfl, rfl⟩ := he
                have hd : decide ((sl : Int) < (N : Int)) = false := by simp; omega
                clear hpe'
                go_wp2_with fail
                refine HPK.out.mono ?_
                rintro e x1 ⟨rfl, hb1⟩
                have HB2 := Lib.hid (below2 hb1 (below_alloc x1 (.cells #[.int .i64 0, .int .i64 0, .int .i64 0, .int .i64 0] 77)))
                have HB1 := Lib.hid hb1
                have HS2 := Lib.hid (HSET.out.keep (Keep.of_below (S := []) HB2.out) (by simp))
                clear hb1
                go_wp2_with (first | (at_lookup; refine wpList_lookup_set rfl (.tmp 67) (.tmp 68) 70 rfl HS2.out HKI.out HKT.out HKB.out (HKZ.out _) (z : Int) (i64_wf (by omega)) rfl rfl ?_; rw [HC.out]) | (at_len; refine wpList_len_set rfl (.tmp 71) 70 rfl HS2.out HKT.out rfl ?_; rw [hsl.out]) | (at_mapUpdate; refine wpList_put_set rfl (.tmp 87) (.tmp 88) _ 70 rfl HS2.out hsm.out HKI.out HKT.out HKB.out (z : Int) (i64_wf (by omega)) HC.out rfl rfl rfl ?_; intro x2 hs2 hg2))
                go_roundw
                case rel =>
                  have hk2 : Keep [mb] x1 x2 := (Keep.of_below (S := [mb]) (below_alloc x1 (.cells #[.int .i64 0, .int .i64 0, .int .i64 0, .int .i64 0] 77))).trans (keep_grown hg2 [mb] (fun k hk _ => by cases hk; simp))
                  have hk3 : Keep [mb] wr x2 := (Keep.of_below HB1.out).trans hk2
                  refine ⟨q, S ++ [(z : Int)], D ++ [entK (z : Int) q], by omega, by first | rfl | go_num, HV.out.keep hk3 (by simp; omega) (fun k hk => by have := (HVB.out k hk).2; simp; omega), HBX.out.trans (hk3.below HBX.out.size (by simpa using hmbw)), hs2, by rw [List.length_append, hsl.out]; simp; omega, Lib.hid ⟨by rw [HFE.out]; simp, by rw [List.length_append, List.length_append, HD.out.2]; rfl⟩⟩
                case measure => simp [intOf]
          · obtain rfl : j = 0 := by omega
            have hD0 := hD.out
            rw [List.take_zero] at hD0
            have hfl : (ff R).length = S.length := by rw [hD0.1, ← hD0.2]; simp [zz, ff]
            rw [hfl] at HLL
            obtain ⟨sl, hsl⟩ : ∃ sl, Hid (S.length = sl) := ⟨_, Lib.hid rfl⟩
            rw [hsl.out] at HLL
            have hal := all_any b N v (lastL N R) wr hv (by rw [HLL]; omega)
            rw [HLL] at hal
            have HAL := Lib.hid hal
            have HBX := Lib.hid hbx
            have HSET := Lib.hid hset
            clear hal hv hbx hset hlu hD hD0 hfl HLL hFU hSl
            go_wp2_with fail
            refine HAL.out.mono ?_
            rintro e x1 ⟨v1, rfl, ho1, hb1⟩
            obtain ⟨A1, c1, rfl⟩ := own_form4 ho1
            have HB1 := Lib.hid hb1
            have HS2 := Lib.hid (HSET.out.keep (Keep.of_below (S := []) hb1) (by simp))
            clear hb1 ho1
            by_cases hlt : sl < N
            · have hmn : min N sl = sl := by omega
              have d1 : decide ((sl : Int) < (N : Int)) = true := by simp; omega
              have d2 : decide ((N : Int) < (sl : Int)) = false := by simp; omega
              have d3 : decide ((N : Int) ≤ (sl : Int)) = false := by simp; omega
              rw [hmn]
              go_wp2_with (at_len; refine wpList_len_set rfl (.tmp 93) 70 rfl HS2.out HKT.out rfl ?_; rw [hsl.out])
              go_ret
              exact ⟨rfl, HBX.out.trans (HB1.out.mono HBX.out.size)⟩
            · have hmn : min N sl = N := by omega
              have d1 : decide ((sl : Int) < (N : Int)) = false := by simp; omega
              have d3 : decide ((N : Int) ≤ (sl : Int)) = true := by simp; omega
              rw [hmn]
              go_wp2_with (at_len; refine wpList_len_set rfl (.tmp 93) 70 rfl HS2.out HKT.out rfl ?_; rw [hsl.out])
              go_ret
              exact ⟨rfl, HBX.out.trans (HB1.out.mono HBX.out.size)⟩
theorem last_row (w : World) (a : Int) (s : Sl Int) (ha : (Lit.int .u8 a).wf = true) (hs : SlOk w 1 1 (fun n : Int => [.int .u8 n]) (fun n => (Lit.int .u8 n).wf = true) s) :
    Calls Try.prog 11 #[.int .u8 a, .slice s.A s.n s.c] w fun e w' => e = .returned (.bool true) ∧ Below w.heap.size w w' := by
  have h1 := bounds_u8 ha
  obtain ⟨m, rfl⟩ : ∃ k : Nat, a = (k : Int) := ⟨a.toNat, by omega⟩
  obtain ⟨l, hr, hl⟩ := u8s_rd hs
  exact last_walk w m (by omega) s.A s.n s.c l hr hl
end Go.Proofs.Ytbdcgfdchkbcnaa.Ca

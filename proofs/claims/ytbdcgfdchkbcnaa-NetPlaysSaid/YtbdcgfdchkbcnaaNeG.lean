/- net: awake, great; the law NetNone. -/
import Derived.Test.YtbdcgfdchkbcnaaNeF
namespace Go.Proofs.Ytbdcgfdchkbcnaa.Ne
open Go.RowKit Go.Proofs.Ytbdcgfdchkbcnaa.L Go.Proofs.Ytbdcgfdchkbcnaa.O Go.Proofs.Ytbdcgfdchkbcnaa.R Go.Proofs.Ytbdcgfdchkbcnaa.A Go.Proofs.Ytbdcgfdchkbcnaa.S Go.Proofs.Ytbdcgfdchkbcnaa.T Go.Proofs.Ytbdcgfdchkbcnaa.C Go.Proofs.Ytbdcgfdchkbcnaa.G Go.Proofs.Ytbdcgfdchkbcnaa.E
set_option linter.unusedVariables false
set_option linter.unusedSimpArgs false

theorem goesN_below {b mb nodes n : Nat} {f : Int → Int → Bool} {v : Value} {L L' : List Value} {k k' : Nat} {w w' : World} {B : Nat} (h : Nt w b mb nodes n f v L k) (hB : B ≤ b) (hs : B ≤ w.heap.size) (hg : GoesN b mb nodes n f v L' k' w w') : Below B w w' := by
  obtain ⟨v', _, hk, _⟩ := hg
  refine hk.below hs fun x hx => ?_
  rcases List.mem_cons.1 hx with rfl | hx
  · exact hB
  · have := (own_lt h.own x (by simpa using hx)).1
    omega
set_option maxHeartbeats 4000000 in
set_option maxRecDepth 100000 in
theorem awake_any (w : World) : Calls Try.prog 15 #[] w fun e w' => e = .returned (.bool true) ∧ Below w.heap.size w w' := by
  have HN := Lib.hid (net_new 3 w (by decide) (by decide))
  go_enter Try.func15, Try.ntmps15
  go_wp2_with fail
  refine HN.out.mono ?_
  rintro e w1 ⟨rfl, hn1, hb1⟩
  obtain ⟨b, hb⟩ : ∃ b, w.heap.size + 1 = b := ⟨_, rfl⟩
  obtain ⟨mb, hmb⟩ : ∃ mb, w.heap.size = mb := ⟨_, rfl⟩
  rw [hb, hmb] at hn1
  rw [hb]
  have hord : w.heap.size ≤ mb ∧ mb < b := by omega
  have HC := Lib.hid (cut_ok b 3 mb 0 (fun _ _ => false) (.slice none 0 0) [] 0 2 1 w1 hn1 (by decide) (by decide) (by decide) (by decide))
  have HB1 := Lib.hid hb1
  have H1 := Lib.hid hn1
  clear hn1 hb1 hb hmb
  go_wp2_with fail
  refine HC.out.mono ?_
  rintro e w2 ⟨rfl, hn2, hk2⟩
  have hb2 : Below w.heap.size w w2 := HB1.out.trans (hk2.below HB1.out.size (by intro x hx; simp at hx; subst hx; exact hord.1))
  obtain ⟨F, hF⟩ : ∃ F, upd (fun _ _ => false) 2 1 true = F := ⟨_, rfl⟩
  have w12 : wholeB 3 F 1 2 = false := by rw [← hF]; decide
  have w13 : wholeB 3 F 1 3 = true := by rw [← hF]; decide
  rw [hF] at hn2
  have hn3 := hn2.below (below_alloc w2 (.cells #[.int .i64 1, .int .i64 2, .string ⟨#[]⟩, .bool false] PT))
  have hca2 : ∀ j u, (#[.int .i64 1, .int .i64 2, .string ⟨#[]⟩, .bool false] : Array Value)[j]? = some u → (w2.alloc (.cells #[.int .i64 1, .int .i64 2, .string ⟨#[]⟩, .bool false] PT)).cell? ⟨w2.heap.size, j, none⟩ = some u := fun j u hu => by rw [cell_alloc, hu]
  have hs1 := send_one b mb 3 _ F (.slice none 0 0) [] 0 1 2 ⟨#[]⟩ false w2.heap.size 0 1 _ hn3 (by decide) (by decide) (by decide) (hca2 0 _ rfl) (hca2 1 _ rfl) (hca2 2 _ rfl) (hca2 3 _ rfl)
  rw [w12] at hs1
  simp only [Bool.false_eq_true, if_false] at hs1
  have HS1 := Lib.hid hs1
  have HN3 := Lib.hid hn3
  have HB2 := Lib.hid (below2 hb2 (below_alloc w2 (.cells #[.int .i64 1, .int .i64 2, .string ⟨#[]⟩, .bool false] PT)))
  clear hn2 hk2 hb2 hn3 hs1 hF hca2
  go_wp2_with fail
  refine HS1.out.mono ?_
  rintro e w3 ⟨rfl, hb3⟩
  have hn4 := HN3.out.below hb3
  have hn5 := hn4.below (below_alloc w3 (.cells #[.int .i64 1, .int .i64 3, .string ⟨#[]⟩, .bool false] PT))
  have hca3 : ∀ j u, (#[.int .i64 1, .int .i64 3, .string ⟨#[]⟩, .bool false] : Array Value)[j]? = some u → (w3.alloc (.cells #[.int .i64 1, .int .i64 3, .string ⟨#[]⟩, .bool false] PT)).cell? ⟨w3.heap.size, j, none⟩ = some u := fun j u hu => by rw [cell_alloc, hu]
  have hs2 := send_one b mb 3 _ F (.slice none 0 0) [] 0 1 3 ⟨#[]⟩ false w3.heap.size 0 1 _ hn5 (by decide) (by decide) (by decide) (hca3 0 _ rfl) (hca3 1 _ rfl) (hca3 2 _ rfl) (hca3 3 _ rfl)
  rw [w13] at hs2
  simp only [if_true] at hs2
  have HS2 := Lib.hid hs2
  have HN5 := Lib.hid hn5
  have HB3 := Lib.hid (below2 (below2 HB2.out hb3) (below_alloc w3 (.cells #[.int .i64 1, .int .i64 3, .string ⟨#[]⟩, .bool false] PT)))
  clear hb3 hn4 hn5 hs2 hca3
  go_wp2_with fail
  refine HS2.out.mono ?_
  rintro e w4 ⟨rfl, hg4⟩
  have HB4 := Lib.hid (HB3.out.trans (goesN_below HN5.out (by omega) HB3.out.size hg4))
  obtain ⟨v4, hn6, -, -⟩ := hg4
  have HL := Lib.hid (len_any b 3 mb _ F v4 _ 1 w4 hn6)
  clear hn6
  go_wp2_with fail
  refine HL.out.mono ?_
  rintro e w5 ⟨rfl, rfl⟩
  go_wp2
  go_ret
  exact ⟨rfl, HB4.out⟩
set_option maxHeartbeats 2000000 in
theorem great_one (g : Nat) (ka oa obb : Int) (LA : Option Addr) (Ln Lc : Nat) (w : World) (hln : Ln ≤ 9223372036854775807) (c0 : w.cell? ⟨g, 0, none⟩ = some (.int .i64 ka)) (c1 : w.cell? ⟨g, 1, none⟩ = some (.int .i64 oa)) (c2 : w.cell? ⟨g, 2, none⟩ = some (.int .i64 obb)) (c3 : w.cell? ⟨g, 3, none⟩ = some (.slice LA Ln Lc)) :
    Calls Try.prog 20 #[.slice (some ⟨g, 0, none⟩) 1 1] w fun e w' => e = .returned (.bool (decide (400 < Ln))) ∧ Below w.heap.size w w' := by
  go_enter Try.func20, Try.ntmps20
  go_wp2
  go_loopw [3, 11] (fun u i wr => (i = .int .i64 0 ∧ u = .int .i64 0 ∧ w = wr) ∨ (i = .int .i64 1 ∧ ¬ 400 < Ln ∧ Below w.heap.size w wr)) (fun _ i _ => 1 - (intOf i).toNat)
  case atStart => exact .inl ⟨rfl, rfl, rfl⟩
  case round =>
    rcases hrel with ⟨rfl, rfl, rfl⟩ | ⟨rfl, hno, hb⟩
    · have hb := Lib.hid (below_alloc w (.cells #[.int .i64 ka, .int .i64 oa, .int .i64 obb, .slice LA Ln Lc] 39))
      by_cases hbig : 400 < Ln
      · have hd : decide ((400 : Int) < (Ln : Int)) = true := by simp; omega
        go_wp2
        go_ret
        exact ⟨retb (by simpa using hbig), hb.out⟩
      · have hd : decide ((400 : Int) < (Ln : Int)) = false := by simp; omega
        go_wp2
        go_roundw
        case rel => exact .inr ⟨by first | rfl | go_num, hbig, hb.out⟩
        case measure => simp [intOf]
    · go_wp2
      go_ret
      exact ⟨retbf (by simpa using hno), hb⟩
theorem pk_eq' (d : Nat) (w : World) : (Op.equalIn (d + 4) PT (.agg #[.int .i64 0, .int .i64 0, .string ⟨#[]⟩, .bool false]) (.agg #[.int .i64 0, .int .i64 0, .string ⟨#[]⟩, .bool false])).run Try.prog w = .ok true w := by
  have hp : Try.prog.stoodInHeld PT = false := by kernel_rfl
  have hf : Try.prog.underlying PT = some (.struct (Try.prog.fieldsOf PT)) := by kernel_rfl
  rw [run_equalIn_agg w _ _ _ _ hf hp]
  clear hf hp
  go_simp
theorem pk_guard : Try.prog.eqGuardType Try.prog.depth PT = false := by kernel_rfl
set_option maxHeartbeats 8000000 in
set_option maxRecDepth 100000 in
theorem none_walk (w : World) (ka oa obb : Int) (LA : Option Addr) (Ln Lc : Nat) (Lxs : List Pkt) (hrd : RdE w LA Ln 4 (Lxs.map encP)) : Calls Try.prog 6 #[.agg #[.int .i64 ka, .int .i64 oa, .int .i64 obb, .slice LA Ln Lc]] w fun e w' => e = .returned (.bool true) ∧ Below w.heap.size w w' := by
  have hln := hrd.2.1
  obtain ⟨xo, hxo⟩ : ∃ xo, w.heap.size = xo := ⟨_, rfl⟩
  obtain ⟨W, hW⟩ : ∃ W, w.alloc (.cells #[.int .i64 ka, .int .i64 oa, .int .i64 obb, .slice LA Ln Lc] 39) = W := ⟨_, rfl⟩
  have hb0 : Below w.heap.size w W := by rw [← hW]; exact below_alloc _ _
  have g0 : W.heap[xo]? = some (.cells #[.int .i64 ka, .int .i64 oa, .int .i64 obb, .slice LA Ln Lc] 39 (0, 0)) := by rw [← hW, ← hxo]; exact heap_alloc_new _ _
  have RD : Hid (∀ w1, Below W.heap.size W w1 → w1.cell? ⟨xo, 0, none⟩ = some (.int .i64 ka) ∧ w1.cell? ⟨xo, 1, none⟩ = some (.int .i64 oa) ∧ w1.cell? ⟨xo, 2, none⟩ = some (.int .i64 obb) ∧ w1.cell? ⟨xo, 3, none⟩ = some (.slice LA Ln Lc)) := Lib.hid fun w1 hb => by
    refine ⟨cell_below hb ?_, cell_below hb ?_, cell_below hb ?_, cell_below hb ?_⟩ <;> (rw [cell_of_row W _ _ _ _ _ g0]; rfl)
  have HRD := Lib.hid hrd
  have HBW := Lib.hid hb0
  have HA := Lib.hid (awake_any W)
  have HWE := Lib.hid hW
  have HXO := Lib.hid hxo
  clear hrd hb0 g0 hW hxo
  go_enter Try.func6, Try.ntmps6
  go_wp2_with fail
  rw [HWE.out, HXO.out]
  refine HA.out.mono ?_
  rintro e w1 ⟨rfl, hb1⟩
  obtain ⟨c0, c1, c2, c3⟩ := RD.out w1 hb1
  have hal := below_alloc w1 (.cells #[.int .i64 ka, .int .i64 oa, .int .i64 obb, .slice LA Ln Lc] 39)
  have HG := Lib.hid (great_one w1.heap.size ka oa obb LA Ln Lc _ hln (cell_alloc w1 #[.int .i64 ka, .int .i64 oa, .int .i64 obb, .slice LA Ln Lc] 39 0) (cell_alloc w1 #[.int .i64 ka, .int .i64 oa, .int .i64 obb, .slice LA Ln Lc] 39 1) (cell_alloc w1 #[.int .i64 ka, .int .i64 oa, .int .i64 obb, .slice LA Ln Lc] 39 2) (cell_alloc w1 #[.int .i64 ka, .int .i64 oa, .int .i64 obb, .slice LA Ln Lc] 39 3))
  have HB1 := Lib.hid (below2 hb1 hal)
  clear hb1 hal
  obtain ⟨gr, hgr⟩ : ∃ gr, decide (400 < Ln) = gr := ⟨_, rfl⟩
  rw [hgr] at HG
  clear hgr
  go_wp2_with fail
  refine HG.out.mono ?_
  rintro e w2 ⟨rfl, hb2⟩
  have HB2 := Lib.hid (below2 HB1.out hb2)
  clear hb2 c0 c1 c2 c3
  cases gr with
  | true =>
    go_wp2
    go_ret
    exact ⟨rfl, below2 HBW.out HB2.out⟩
  | false =>
    go_wp2_with fail
    refine (healall_nil w2).mono ?_
    rintro e w3 ⟨rfl, rfl⟩
    obtain ⟨c0, c1, c2, c3⟩ := RD.out w2 HB2.out
    have HT := Lib.hid (take_nil oa w2)
    go_wp2_with fail
    refine HT.out.mono ?_
    rintro e w3 ⟨rfl, hb3⟩
    clear c0 c1 c2 c3
    obtain ⟨xz, hxz⟩ : ∃ xz, Hid (w3.heap.size = xz) := ⟨_, Lib.hid rfl⟩
    obtain ⟨W0, hW0⟩ : ∃ W0, Hid (w3.alloc (.cells #[.int .i64 0, .int .i64 0, .string ⟨#[]⟩, .bool false] PT) = W0) := ⟨_, Lib.hid rfl⟩
    have hb4 : Below w3.heap.size w3 W0 := by rw [← hW0.out]; exact below_alloc _ _
    have hz0 : W0.heap[xz]? = some (.cells #[.int .i64 0, .int .i64 0, .string ⟨#[]⟩, .bool false] PT (0, 0)) := by rw [← hW0.out, ← hxz.out]; exact heap_alloc_new _ _
    have HBX := Lib.hid (below2 HB2.out (below2 hb3 hb4))
    have HB0 : Hid (Below w.heap.size w W0) := Lib.hid (below2 HBW.out HBX.out)
    have HOP : Hid (∀ w1, Below W0.heap.size W0 w1 → w1.cell? ⟨xo, 0, none⟩ = some (.int .i64 ka) ∧ w1.cell? ⟨xo, 1, none⟩ = some (.int .i64 oa) ∧ w1.cell? ⟨xo, 2, none⟩ = some (.int .i64 obb) ∧ w1.cell? ⟨xo, 3, none⟩ = some (.slice LA Ln Lc)) := Lib.hid fun w1 hb => RD.out w1 (below2 HBX.out hb)
    have HZP : Hid (∀ w1, Below W0.heap.size W0 w1 → w1.cell? ⟨xz, 0, none⟩ = some (.int .i64 0) ∧ w1.cell? ⟨xz, 1, none⟩ = some (.int .i64 0) ∧ w1.cell? ⟨xz, 2, none⟩ = some (.string ⟨#[]⟩) ∧ w1.cell? ⟨xz, 3, none⟩ = some (.bool false)) := Lib.hid fun w1 hb => pk_cells ((hb.block _ (Array.getElem?_eq_some_iff.1 hz0).1).trans hz0)
    have HEQ : Hid (∀ w : World, (Op.equalIn 10000 PT (.agg #[.int .i64 0, .int .i64 0, .string ⟨#[]⟩, .bool false]) (.agg #[.int .i64 0, .int .i64 0, .string ⟨#[]⟩, .bool false])).run Try.prog w = .ok true w) := Lib.hid (pk_eq' 9996)
    have HGU := Lib.hid pk_guard
    clear hb3 hb4 hz0
    go_wp2_with fail
    rw [hW0.out, hxz.out]
    have hS0 : Below W0.heap.size W0 W0.drew := below_drewN 1 W0
    refine wp_region_one (fun W => Below W0.heap.size W0 W) (fun u v => Below u.heap.size u v) (fun a i => match i with
        | 0 => (fun v _ => v = .pointer none)
        | 1 => (fun v _ => v = .pointer (some ⟨xo, 3, none⟩))
        | 2 => (fun v _ => v = .slice LA Ln Lc)
        | 3 => (fun v _ => v = .int .i64 (Ln : Int))
        | 4 => (fun v _ => v = .pointer (some ⟨xo, 3, none⟩))
        | 5 => (fun v _ => v = .slice LA Ln Lc)
        | 6 => (fun v _ => v = .int .i64 (Ln : Int))
        | 7 => (fun v _ => v = .bool true)
        | 8 => (fun v _ => v = .bool true)
        | 9 => (fun v _ => v = .agg #[.int .i64 0, .int .i64 0, .string ⟨#[]⟩, .bool false])
        | 10 => (fun v _ => v = .agg #[.int .i64 0, .int .i64 0, .string ⟨#[]⟩, .bool false])
        | 11 => (fun v _ => v = .bool true)
        | 12 => (fun v _ => v = .bool true)
        | 13 => (fun v _ => v = .bool true)
        | 14 => (fun v _ => v = .int .i64 8)
        | 15 => (fun v _ => v = .bool true)
        | 16 => (fun v _ => v = .bool true)
        | 17 => (fun v _ => v = .bool true)
        | 18 => (fun v _ => v = .pointer none)
        | 19 => (fun v _ => v = .pointer (some ⟨xo, 1, none⟩))
        | 20 => (fun v _ => v = .int .i64 oa)
        | 21 => (fun v _ => v = .int .i64 8)
        | 22 => (fun v _ => v = .bool true)
        | 23 => (fun v _ => v = .bool true)
        | 24 => (fun v _ => v = .bool true)
        | 25 => (fun v _ => v = .pointer none)
        | 26 => (fun v _ => v = .pointer (some ⟨xo, 1, none⟩))
        | 27 => (fun v _ => v = .int .i64 oa)
        | 28 => (fun v _ => v = .int .i64 8)
        | 29 => (fun v _ => v = .bool true)
        | 30 => (fun v _ => v = .bool true)
        | 31 => (fun v _ => v = .bool true)
        | 32 => (fun v _ => v = .pointer none)
        | 33 => (fun v _ => v = .pointer (some ⟨xo, 1, none⟩))
        | 34 => (fun v _ => v = .int .i64 oa)
        | 35 => (fun v _ => v = .pointer (some ⟨xo, 2, none⟩))
        | 36 => (fun v _ => v = .int .i64 obb)
        | 37 => (fun v _ => v = .int .i64 1)
        | 38 => (fun v _ => v = .bool true)
        | 39 => (fun v _ => v = .bool true)
        | 40 => (fun v _ => v = .bool true)
        | 41 => (fun v _ => v = .pointer none)
        | 42 => (fun v _ => v = .pointer (some ⟨xo, 1, none⟩))
        | 43 => (fun v _ => v = .int .i64 oa)
        | 44 => (fun v _ => v = .pointer (some ⟨xo, 2, none⟩))
        | 45 => (fun v _ => v = .int .i64 obb)
        | 46 => (fun v _ => v = .int .i64 1)
        | 47 => (fun v _ => v = .bool true)
        | 48 => (fun v _ => v = .bool true)
        | 49 => (fun v _ => v = .bool true)
        | 50 => (fun v _ => v = .pointer none)
        | 51 => (fun v _ => v = .int .i64 0)
        | 52 => (fun v _ => v = .bool true)
        | 53 => (fun v _ => v = .bool true)
        | 54 => (fun v _ => v = .bool true)
        | 55 => (fun v _ => v = .pointer none)
        | 56 => (fun v _ => v = .slice none 0 0)
        | 57 => (fun v _ => v = .int .i64 0)
        | 58 => (fun v _ => v = .bool true)
        | 59 => (fun v _ => v = .bool true)
        | 60 => (fun v _ => v = .bool true)
        | _ => (fun _ _ => True)) #[0, 0, 2, 7, 0, 16, 48, 127, 255, 511, 511, 2047, 4095, 8191, 16383, 32767, 65535, 131071, 262143, 262143, 786431, 2097151, 4194303, 8388607, 16777215, 33554431, 33554431, 100663295, 268435455, 536870911, 1073741823, 2147483647, 4294967295, 4294967295, 12884901887, 4294967295, 38654705663, 137438953471, 274877906943, 549755813887, 1099511627775, 2199023255551, 2199023255551, 6597069766655, 2199023255551, 19791209299967, 70368744177663, 140737488355327, 281474976710655, 562949953421311, 1125899906842623, 2251799813685247, 4503599627370495, 9007199254740991, 18014398509481983, 36028797018963967, 72057594037927935, 144115188075855871, 288230376151711743, 576460752303423487, 1152921504606846975] #[0, 0, 2, 5, 0, 16, 32, 72, 128, 256, 256, 1792, 2304, 4096, 8192, 24576, 40960, 65536, 131072, 131072, 655360, 1441792, 2228224, 4325376, 8388608, 16777216, 16777216, 83886080, 184549376, 285212672, 553648128, 1073741824, 2147483648, 2147483648, 10737418240, 2147483648, 36507222016, 92341796864, 139586437120, 277025390592, 549755813888, 1099511627776, 1099511627776, 5497558138880, 1099511627776, 18691697672192, 47278999994368, 71468255805440, 141836999983104, 281474976710656, 562949953421312, 1688849860263936, 2814749767106560, 5066549580791808, 9007199254740992, 18014398509481984, 54043195528445952, 90071992547409920, 162129586585337856, 306244774661193728, 576460752303423488] 2305843009213693951 (by kernel_rfl) 61 rfl (fun m hm => by subst hm; kernel_rfl) (by kernel_rfl) (fun w => Below.refl _ w) (fun u v w h1 h2 => below2 h1 h2) ?_ (hS0) ?_ ?_
    · intro i hi
      rcases (by omega : i = 0 ∨ i = 1 ∨ i = 2 ∨ i = 3 ∨ i = 4 ∨ i = 5 ∨ i = 6 ∨ i = 7 ∨ i = 8 ∨ i = 9 ∨ i = 10 ∨ i = 11 ∨ i = 12 ∨ i = 13 ∨ i = 14 ∨ i = 15 ∨ i = 16 ∨ i = 17 ∨ i = 18 ∨ i = 19 ∨ i = 20 ∨ i = 21 ∨ i = 22 ∨ i = 23 ∨ i = 24 ∨ i = 25 ∨ i = 26 ∨ i = 27 ∨ i = 28 ∨ i = 29 ∨ i = 30 ∨ i = 31 ∨ i = 32 ∨ i = 33 ∨ i = 34 ∨ i = 35 ∨ i = 36 ∨ i = 37 ∨ i = 38 ∨ i = 39 ∨ i = 40 ∨ i = 41 ∨ i = 42 ∨ i = 43 ∨ i = 44 ∨ i = 45 ∨ i = 46 ∨ i = 47 ∨ i = 48 ∨ i = 49 ∨ i = 50 ∨ i = 51 ∨ i = 52 ∨ i = 53 ∨ i = 54 ∨ i = 55 ∨ i = 56 ∨ i = 57 ∨ i = 58 ∨ i = 59 ∨ i = 60) with rfl | rfl | rfl | rfl | rfl | rfl | rfl | rfl | rfl | rfl | rfl | rfl | rfl | rfl | rfl | rfl | rfl | rfl | rfl | rfl | rfl | rfl | rfl | rfl | rfl | rfl | rfl | rfl | rfl | rfl | rfl | rfl | rfl | rfl | rfl | rfl | rfl | rfl | rfl | rfl | rfl | rfl | rfl | rfl | rfl | rfl | rfl | rfl | rfl | rfl | rfl | rfl | rfl | rfl | rfl | rfl | rfl | rfl | rfl | rfl | rfl
      · exact fun v w w' h hr => by exact h
      · exact fun v w w' h hr => by exact h
      · exact fun v w w' h hr => by exact h
      · exact fun v w w' h hr => by exact h
      · exact fun v w w' h hr => by exact h
      · exact fun v w w' h hr => by exact h
      · exact fun v w w' h hr => by exact h
      · exact fun v w w' h hr => by exact h
      · exact fun v w w' h hr => by exact h
      · exact fun v w w' h hr => by exact h
      · exact fun v w w' h hr => by exact h
      · exact fun v w w' h hr => by exact h
      · exact fun v w w' h hr => by exact h
      · exact fun v w w' h hr => by exact h
      · exact fun v w w' h hr => by exact h
      · exact fun v w w' h hr => by exact h
      · exact fun v w w' h hr => by exact h
      · exact fun v w w' h hr => by exact h
      · exact fun v w w' h hr => by exact h
      · exact fun v w w' h hr => by exact h
      · exact fun v w w' h hr => by exact h
      · exact fun v w w' h hr => by exact h
      · exact fun v w w' h hr => by exact h
      · exact fun v w w' h hr => by exact h
      · exact fun v w w' h hr => by exact h
      · exact fun v w w' h hr => by exact h
      · exact fun v w w' h hr => by exact h
      · exact fun v w w' h hr => by exact h
      · exact fun v w w' h hr => by exact h
      · exact fun v w w' h hr => by exact h
      · exact fun v w w' h hr => by exact h
      · exact fun v w w' h hr => by exact h
      · exact fun v w w' h hr => by exact h
      · exact fun v w w' h hr => by exact h
      · exact fun v w w' h hr => by exact h
      · exact fun v w w' h hr => by exact h
      · exact fun v w w' h hr => by exact h
      · exact fun v w w' h hr => by exact h
      · exact fun v w w' h hr => by exact h
      · exact fun v w w' h hr => by exact h
      · exact fun v w w' h hr => by exact h
      · exact fun v w w' h hr => by exact h
      · exact fun v w w' h hr => by exact h
      · exact fun v w w' h hr => by exact h
      · exact fun v w w' h hr => by exact h
      · exact fun v w w' h hr => by exact h
      · exact fun v w w' h hr => by exact h
      · exact fun v w w' h hr => by exact h
      · exact fun v w w' h hr => by exact h
      · exact fun v w w' h hr => by exact h
      · exact fun v w w' h hr => by exact h
      · exact fun v w w' h hr => by exact h
      · exact fun v w w' h hr => by exact h
      · exact fun v w w' h hr => by exact h
      · exact fun v w w' h hr => by exact h
      · exact fun v w w' h hr => by exact h
      · exact fun v w w' h hr => by exact h
      · exact fun v w w' h hr => by exact h
      · exact fun v w w' h hr => by exact h
      · exact fun v w w' h hr => by exact h
      · exact fun v w w' h hr => by exact h
    · intro i hi
      rcases (by omega : i = 0 ∨ i = 1 ∨ i = 2 ∨ i = 3 ∨ i = 4 ∨ i = 5 ∨ i = 6 ∨ i = 7 ∨ i = 8 ∨ i = 9 ∨ i = 10 ∨ i = 11 ∨ i = 12 ∨ i = 13 ∨ i = 14 ∨ i = 15 ∨ i = 16 ∨ i = 17 ∨ i = 18 ∨ i = 19 ∨ i = 20 ∨ i = 21 ∨ i = 22 ∨ i = 23 ∨ i = 24 ∨ i = 25 ∨ i = 26 ∨ i = 27 ∨ i = 28 ∨ i = 29 ∨ i = 30 ∨ i = 31 ∨ i = 32 ∨ i = 33 ∨ i = 34 ∨ i = 35 ∨ i = 36 ∨ i = 37 ∨ i = 38 ∨ i = 39 ∨ i = 40 ∨ i = 41 ∨ i = 42 ∨ i = 43 ∨ i = 44 ∨ i = 45 ∨ i = 46 ∨ i = 47 ∨ i = 48 ∨ i = 49 ∨ i = 50 ∨ i = 51 ∨ i = 52 ∨ i = 53 ∨ i = 54 ∨ i = 55 ∨ i = 56 ∨ i = 57 ∨ i = 58 ∨ i = 59 ∨ i = 60) with rfl | rfl | rfl | rfl | rfl | rfl | rfl | rfl | rfl | rfl | rfl | rfl | rfl | rfl | rfl | rfl | rfl | rfl | rfl | rfl | rfl | rfl | rfl | rfl | rfl | rfl | rfl | rfl | rfl | rfl | rfl | rfl | rfl | rfl | rfl | rfl | rfl | rfl | rfl | rfl | rfl | rfl | rfl | rfl | rfl | rfl | rfl | rfl | rfl | rfl | rfl | rfl | rfl | rfl | rfl | rfl | rfl | rfl | rfl | rfl | rfl
      · -- 0: Op.move (Operand.tmp 3)
        intro l hl vs W hS hR hp
        obtain rfl : l = [] := hl.symm.trans (by kernel_rfl)
        clear hp hl
        refine opgoal (_) (some 20) rfl rfl fun K hK => ?_
        refine Runs.mk ?_
        simp only [putAll]
        go_simp
        refine hK _ _ ?_ hS ((fun w => Below.refl _ w) W) _ rfl rfl
        first | rfl | go_simp | simp
      · -- 1: Op.fieldAddr 39 (Operand.tmp 1) 3
        intro l hl vs W hS hR hp
        obtain rfl : l = [] := hl.symm.trans (by kernel_rfl)
        clear hp hl
        refine opgoal (_) (some 21) rfl rfl fun K hK => ?_
        refine Runs.mk ?_
        simp only [putAll]
        go_simp
        refine hK _ _ ?_ hS ((fun w => Below.refl _ w) W) _ rfl rfl
        first | rfl | go_simp | simp
      · -- 2: Op.load 22 (Operand.tmp 21)
        intro l hl vs W hS hR hp
        obtain rfl : l = [(1, 21)] := hl.symm.trans (by kernel_rfl)
        have p1 : vs 1 = _ := hp 1 (by decide) (by decide)
        clear hp hl
        refine opgoal (_) (some 22) rfl rfl fun K hK => ?_
        obtain ⟨f0, f1, f2, f3⟩ := HOP.out W hS
        refine Runs.mk ?_
        simp only [putAll]
        go_simp
        refine hK _ _ ?_ hS ((fun w => Below.refl _ w) W) _ rfl rfl
        first | rfl | go_simp | simp
      · -- 3: Op.call { callee := Callee.value (Operand.func 17), args := #[Operand.tmp 20, Operand.tmp 22], argTypes := #[24, 22] }
        intro l hl vs W hS hR hp
        obtain rfl : l = [(0, 20), (1, 21), (2, 22)] := hl.symm.trans (by kernel_rfl)
        have p0 : vs 0 = _ := hp 0 (by decide) (by decide)
        have p2 : vs 2 = _ := hp 2 (by decide) (by decide)
        clear hp hl
        refine opgoal (_) (some 23) rfl rfl fun K hK => ?_
        refine Runs.mk ?_
        simp only [putAll]
        go_simp
        refine (send_nil LA Ln Lc Lxs W (HRD.out.below (below2 HB0.out hS))).mono ?_
        rintro e w' ⟨rfl, hb⟩
        go_simp
        exact hK _ _ rfl (below2 hS hb) hb _ rfl rfl
      · -- 4: Op.fieldAddr 39 (Operand.tmp 1) 3
        intro l hl vs W hS hR hp
        obtain rfl : l = [] := hl.symm.trans (by kernel_rfl)
        clear hp hl
        refine opgoal (_) (some 24) rfl rfl fun K hK => ?_
        refine Runs.mk ?_
        simp only [putAll]
        go_simp
        refine hK _ _ ?_ hS ((fun w => Below.refl _ w) W) _ rfl rfl
        first | rfl | go_simp | simp
      · -- 5: Op.load 22 (Operand.tmp 24)
        intro l hl vs W hS hR hp
        obtain rfl : l = [(4, 24)] := hl.symm.trans (by kernel_rfl)
        have p4 : vs 4 = _ := hp 4 (by decide) (by decide)
        clear hp hl
        refine opgoal (_) (some 25) rfl rfl fun K hK => ?_
        obtain ⟨f0, f1, f2, f3⟩ := HOP.out W hS
        refine Runs.mk ?_
        simp only [putAll]
        go_simp
        refine hK _ _ ?_ hS ((fun w => Below.refl _ w) W) _ rfl rfl
        first | rfl | go_simp | simp
      · -- 6: Op.call { callee := Callee.builtin Builtin.len, args := #[Operand.tmp 25], argTypes := #[22] }
        intro l hl vs W hS hR hp
        obtain rfl : l = [(4, 24), (5, 25)] := hl.symm.trans (by kernel_rfl)
        have p5 : vs 5 = _ := hp 5 (by decide) (by decide)
        clear hp hl
        refine opgoal (_) (some 26) rfl rfl fun K hK => ?_
        refine Runs.mk ?_
        simp only [putAll]
        go_simp
        refine hK _ _ ?_ hS ((fun w => Below.refl _ w) W) _ rfl rfl
        first | rfl | go_simp | simp
      · -- 7: Op.binOp BinOp.eql 3 (Operand.tmp 23) (Operand.tmp 26) 3
        intro l hl vs W hS hR hp
        obtain rfl : l = [(0, 20), (1, 21), (2, 22), (3, 23), (4, 24), (5, 25), (6, 26)] := hl.symm.trans (by kernel_rfl)
        have p3 : vs 3 = _ := hp 3 (by decide) (by decide)
        have p6 : vs 6 = _ := hp 6 (by decide) (by decide)
        clear hp hl
        refine opgoal (_) (some 27) rfl rfl fun K hK => ?_
        refine Runs.mk ?_
        simp only [putAll]
        go_simp
        refine hK _ _ ?_ hS ((fun w => Below.refl _ w) W) _ rfl rfl
        first | rfl | go_simp | simp
      · -- 8: Op.move (Operand.tmp 27)
        intro l hl vs W hS hR hp
        obtain rfl : l = [(0, 20), (1, 21), (2, 22), (3, 23), (4, 24), (5, 25), (6, 26), (7, 27)] := hl.symm.trans (by kernel_rfl)
        have p7 : vs 7 = _ := hp 7 (by decide) (by decide)
        clear hp hl
        refine opgoal (_) (some 28) rfl rfl fun K hK => ?_
        refine Runs.mk ?_
        simp only [putAll]
        go_simp
        refine hK _ _ ?_ hS ((fun w => Below.refl _ w) W) _ rfl rfl
        first | rfl | go_simp | simp
      · -- 9: Op.load 29 (Operand.tmp 4)  [(8, 'true')]
        intro l hl vs W hS hR hp
        obtain rfl : l = [(0, 20), (1, 21), (2, 22), (3, 23), (4, 24), (5, 25), (6, 26), (7, 27), (8, 28)] := hl.symm.trans (by kernel_rfl)
        have p8 : vs 8 = _ := hp 8 (by decide) (by decide)
        clear hp hl
        refine opgoal (_) (some 29) rfl rfl fun K hK => ?_
        obtain ⟨g0, g1, g2, g3⟩ := HZP.out W hS
        refine Runs.mk ?_
        simp only [putAll]
        go_simp
        refine hK _ _ ?_ hS ((fun w => Below.refl _ w) W) _ rfl rfl
        first | rfl | go_simp | simp
      · -- 10: Op.build 29 #[]  [(8, 'true')]
        intro l hl vs W hS hR hp
        obtain rfl : l = [(0, 20), (1, 21), (2, 22), (3, 23), (4, 24), (5, 25), (6, 26), (7, 27), (8, 28)] := hl.symm.trans (by kernel_rfl)
        have p8 : vs 8 = _ := hp 8 (by decide) (by decide)
        clear hp hl
        refine opgoal (_) (some 30) rfl rfl fun K hK => ?_
        refine Runs.mk ?_
        simp only [putAll]
        go_simp
        refine hK _ _ ?_ hS ((fun w => Below.refl _ w) W) _ rfl rfl
        first | rfl | go_simp | simp
      · -- 11: Op.binOp BinOp.eql 29 (Operand.tmp 29) (Operand.tmp 30) 29  [(8, 'true')]
        intro l hl vs W hS hR hp
        obtain rfl : l = [(0, 20), (1, 21), (2, 22), (3, 23), (4, 24), (5, 25), (6, 26), (7, 27), (8, 28), (9, 29), (10, 30)] := hl.symm.trans (by kernel_rfl)
        have p8 : vs 8 = _ := hp 8 (by decide) (by decide)
        have p9 : vs 9 = _ := hp 9 (by decide) (by decide)
        have p10 : vs 10 = _ := hp 10 (by decide) (by decide)
        clear hp hl
        refine opgoal (_) (some 31) rfl rfl fun K hK => ?_
        have hq := HEQ.out
        have hg := HGU.out
        refine Runs.mk ?_
        simp only [putAll]
        go_simp
        refine hK _ _ ?_ hS ((fun w => Below.refl _ w) W) _ rfl rfl
        first | rfl | go_simp | simp
      · -- 12: Op.pick (Operand.tmp 28) (Operand.tmp 31) (Operand.const (Value.bool false))
        intro l hl vs W hS hR hp
        obtain rfl : l = [(0, 20), (1, 21), (2, 22), (3, 23), (4, 24), (5, 25), (6, 26), (7, 27), (8, 28), (9, 29), (10, 30), (11, 31)] := hl.symm.trans (by kernel_rfl)
        have p8 : vs 8 = _ := hp 8 (by decide) (by decide)
        have p11 : vs 11 = _ := hp 11 (by decide) (by decide)
        clear hp hl
        refine opgoal (_) (some 32) rfl rfl fun K hK => ?_
        refine Runs.mk ?_
        simp only [putAll]
        go_simp
        refine hK _ _ ?_ hS ((fun w => Below.refl _ w) W) _ rfl rfl
        first | rfl | go_simp | simp
      · -- 13: Op.move (Operand.tmp 32)
        intro l hl vs W hS hR hp
        obtain rfl : l = [(0, 20), (1, 21), (2, 22), (3, 23), (4, 24), (5, 25), (6, 26), (7, 27), (8, 28), (9, 29), (10, 30), (11, 31), (12, 32)] := hl.symm.trans (by kernel_rfl)
        have p12 : vs 12 = _ := hp 12 (by decide) (by decide)
        clear hp hl
        refine opgoal (_) (some 33) rfl rfl fun K hK => ?_
        refine Runs.mk ?_
        simp only [putAll]
        go_simp
        refine hK _ _ ?_ hS ((fun w => Below.refl _ w) W) _ rfl rfl
        first | rfl | go_simp | simp
      · -- 14: Op.move (Operand.tmp 5)  [(13, 'true')]
        intro l hl vs W hS hR hp
        obtain rfl : l = [(0, 20), (1, 21), (2, 22), (3, 23), (4, 24), (5, 25), (6, 26), (7, 27), (8, 28), (9, 29), (10, 30), (11, 31), (12, 32), (13, 33)] := hl.symm.trans (by kernel_rfl)
        have p13 : vs 13 = _ := hp 13 (by decide) (by decide)
        clear hp hl
        refine opgoal (_) (some 34) rfl rfl fun K hK => ?_
        refine Runs.mk ?_
        simp only [putAll]
        go_simp
        refine hK _ _ ?_ hS ((fun w => Below.refl _ w) W) _ rfl rfl
        first | rfl | go_simp | simp
      · -- 15: Op.binOp BinOp.eql 25 (Operand.tmp 34) (Operand.const (Value.int IntKind.i64 8)) 25  [(13, 'true')]
        intro l hl vs W hS hR hp
        obtain rfl : l = [(0, 20), (1, 21), (2, 22), (3, 23), (4, 24), (5, 25), (6, 26), (7, 27), (8, 28), (9, 29), (10, 30), (11, 31), (12, 32), (13, 33), (14, 34)] := hl.symm.trans (by kernel_rfl)
        have p13 : vs 13 = _ := hp 13 (by decide) (by decide)
        have p14 : vs 14 = _ := hp 14 (by decide) (by decide)
        clear hp hl
        refine opgoal (_) (some 35) rfl rfl fun K hK => ?_
        refine Runs.mk ?_
        simp only [putAll]
        go_simp
        refine hK _ _ ?_ hS ((fun w => Below.refl _ w) W) _ rfl rfl
        first | rfl | go_simp | simp
      · -- 16: Op.pick (Operand.tmp 33) (Operand.tmp 35) (Operand.const (Value.bool false))
        intro l hl vs W hS hR hp
        obtain rfl : l = [(0, 20), (1, 21), (2, 22), (3, 23), (4, 24), (5, 25), (6, 26), (7, 27), (8, 28), (9, 29), (10, 30), (11, 31), (12, 32), (13, 33), (14, 34), (15, 35)] := hl.symm.trans (by kernel_rfl)
        have p13 : vs 13 = _ := hp 13 (by decide) (by decide)
        have p15 : vs 15 = _ := hp 15 (by decide) (by decide)
        clear hp hl
        refine opgoal (_) (some 36) rfl rfl fun K hK => ?_
        refine Runs.mk ?_
        simp only [putAll]
        go_simp
        refine hK _ _ ?_ hS ((fun w => Below.refl _ w) W) _ rfl rfl
        first | rfl | go_simp | simp
      · -- 17: Op.move (Operand.tmp 36)
        intro l hl vs W hS hR hp
        obtain rfl : l = [(0, 20), (1, 21), (2, 22), (3, 23), (4, 24), (5, 25), (6, 26), (7, 27), (8, 28), (9, 29), (10, 30), (11, 31), (12, 32), (13, 33), (14, 34), (15, 35), (16, 36)] := hl.symm.trans (by kernel_rfl)
        have p16 : vs 16 = _ := hp 16 (by decide) (by decide)
        clear hp hl
        refine opgoal (_) (some 37) rfl rfl fun K hK => ?_
        refine Runs.mk ?_
        simp only [putAll]
        go_simp
        refine hK _ _ ?_ hS ((fun w => Below.refl _ w) W) _ rfl rfl
        first | rfl | go_simp | simp
      · -- 18: Op.move (Operand.tmp 3)  [(17, 'true')]
        intro l hl vs W hS hR hp
        obtain rfl : l = [(0, 20), (1, 21), (2, 22), (3, 23), (4, 24), (5, 25), (6, 26), (7, 27), (8, 28), (9, 29), (10, 30), (11, 31), (12, 32), (13, 33), (14, 34), (15, 35), (16, 36), (17, 37)] := hl.symm.trans (by kernel_rfl)
        have p17 : vs 17 = _ := hp 17 (by decide) (by decide)
        clear hp hl
        refine opgoal (_) (some 38) rfl rfl fun K hK => ?_
        refine Runs.mk ?_
        simp only [putAll]
        go_simp
        refine hK _ _ ?_ hS ((fun w => Below.refl _ w) W) _ rfl rfl
        first | rfl | go_simp | simp
      · -- 19: Op.fieldAddr 39 (Operand.tmp 1) 1  [(17, 'true')]
        intro l hl vs W hS hR hp
        obtain rfl : l = [(0, 20), (1, 21), (2, 22), (3, 23), (4, 24), (5, 25), (6, 26), (7, 27), (8, 28), (9, 29), (10, 30), (11, 31), (12, 32), (13, 33), (14, 34), (15, 35), (16, 36), (17, 37)] := hl.symm.trans (by kernel_rfl)
        have p17 : vs 17 = _ := hp 17 (by decide) (by decide)
        clear hp hl
        refine opgoal (_) (some 39) rfl rfl fun K hK => ?_
        refine Runs.mk ?_
        simp only [putAll]
        go_simp
        refine hK _ _ ?_ hS ((fun w => Below.refl _ w) W) _ rfl rfl
        first | rfl | go_simp | simp
      · -- 20: Op.load 3 (Operand.tmp 39)  [(17, 'true')]
        intro l hl vs W hS hR hp
        obtain rfl : l = [(0, 20), (1, 21), (2, 22), (3, 23), (4, 24), (5, 25), (6, 26), (7, 27), (8, 28), (9, 29), (10, 30), (11, 31), (12, 32), (13, 33), (14, 34), (15, 35), (16, 36), (17, 37), (19, 39)] := hl.symm.trans (by kernel_rfl)
        have p17 : vs 17 = _ := hp 17 (by decide) (by decide)
        have p19 : vs 19 = _ := hp 19 (by decide) (by decide)
        clear hp hl
        refine opgoal (_) (some 40) rfl rfl fun K hK => ?_
        obtain ⟨f0, f1, f2, f3⟩ := HOP.out W hS
        refine Runs.mk ?_
        simp only [putAll]
        go_simp
        refine hK _ _ ?_ hS ((fun w => Below.refl _ w) W) _ rfl rfl
        first | rfl | go_simp | simp
      · -- 21: Op.call { callee := Callee.value (Operand.func 22), args := #[Operand.tmp 38, Operand.tmp 40], argTypes := #[24, 3] }  [(17, 'true')]
        intro l hl vs W hS hR hp
        obtain rfl : l = [(0, 20), (1, 21), (2, 22), (3, 23), (4, 24), (5, 25), (6, 26), (7, 27), (8, 28), (9, 29), (10, 30), (11, 31), (12, 32), (13, 33), (14, 34), (15, 35), (16, 36), (17, 37), (18, 38), (19, 39), (20, 40)] := hl.symm.trans (by kernel_rfl)
        have p17 : vs 17 = _ := hp 17 (by decide) (by decide)
        have p18 : vs 18 = _ := hp 18 (by decide) (by decide)
        have p20 : vs 20 = _ := hp 20 (by decide) (by decide)
        clear hp hl
        refine opgoal (_) (some 41) rfl rfl fun K hK => ?_
        refine Runs.mk ?_
        simp only [putAll]
        go_simp
        refine (double_nil oa W).mono ?_
        rintro e w' ⟨rfl, rfl⟩
        go_simp
        exact hK _ _ rfl hS (Below.refl _ _) _ rfl rfl
      · -- 22: Op.binOp BinOp.eql 25 (Operand.tmp 41) (Operand.const (Value.int IntKind.i64 8)) 25  [(17, 'true')]
        intro l hl vs W hS hR hp
        obtain rfl : l = [(0, 20), (1, 21), (2, 22), (3, 23), (4, 24), (5, 25), (6, 26), (7, 27), (8, 28), (9, 29), (10, 30), (11, 31), (12, 32), (13, 33), (14, 34), (15, 35), (16, 36), (17, 37), (18, 38), (19, 39), (20, 40), (21, 41)] := hl.symm.trans (by kernel_rfl)
        have p17 : vs 17 = _ := hp 17 (by decide) (by decide)
        have p21 : vs 21 = _ := hp 21 (by decide) (by decide)
        clear hp hl
        refine opgoal (_) (some 42) rfl rfl fun K hK => ?_
        refine Runs.mk ?_
        simp only [putAll]
        go_simp
        refine hK _ _ ?_ hS ((fun w => Below.refl _ w) W) _ rfl rfl
        first | rfl | go_simp | simp
      · -- 23: Op.pick (Operand.tmp 37) (Operand.tmp 42) (Operand.const (Value.bool false))
        intro l hl vs W hS hR hp
        obtain rfl : l = [(0, 20), (1, 21), (2, 22), (3, 23), (4, 24), (5, 25), (6, 26), (7, 27), (8, 28), (9, 29), (10, 30), (11, 31), (12, 32), (13, 33), (14, 34), (15, 35), (16, 36), (17, 37), (18, 38), (19, 39), (20, 40), (21, 41), (22, 42)] := hl.symm.trans (by kernel_rfl)
        have p17 : vs 17 = _ := hp 17 (by decide) (by decide)
        have p22 : vs 22 = _ := hp 22 (by decide) (by decide)
        clear hp hl
        refine opgoal (_) (some 43) rfl rfl fun K hK => ?_
        refine Runs.mk ?_
        simp only [putAll]
        go_simp
        refine hK _ _ ?_ hS ((fun w => Below.refl _ w) W) _ rfl rfl
        first | rfl | go_simp | simp
      · -- 24: Op.move (Operand.tmp 43)
        intro l hl vs W hS hR hp
        obtain rfl : l = [(0, 20), (1, 21), (2, 22), (3, 23), (4, 24), (5, 25), (6, 26), (7, 27), (8, 28), (9, 29), (10, 30), (11, 31), (12, 32), (13, 33), (14, 34), (15, 35), (16, 36), (17, 37), (18, 38), (19, 39), (20, 40), (21, 41), (22, 42), (23, 43)] := hl.symm.trans (by kernel_rfl)
        have p23 : vs 23 = _ := hp 23 (by decide) (by decide)
        clear hp hl
        refine opgoal (_) (some 44) rfl rfl fun K hK => ?_
        refine Runs.mk ?_
        simp only [putAll]
        go_simp
        refine hK _ _ ?_ hS ((fun w => Below.refl _ w) W) _ rfl rfl
        first | rfl | go_simp | simp
      · -- 25: Op.move (Operand.tmp 3)  [(24, 'true')]
        intro l hl vs W hS hR hp
        obtain rfl : l = [(0, 20), (1, 21), (2, 22), (3, 23), (4, 24), (5, 25), (6, 26), (7, 27), (8, 28), (9, 29), (10, 30), (11, 31), (12, 32), (13, 33), (14, 34), (15, 35), (16, 36), (17, 37), (18, 38), (19, 39), (20, 40), (21, 41), (22, 42), (23, 43), (24, 44)] := hl.symm.trans (by kernel_rfl)
        have p24 : vs 24 = _ := hp 24 (by decide) (by decide)
        clear hp hl
        refine opgoal (_) (some 45) rfl rfl fun K hK => ?_
        refine Runs.mk ?_
        simp only [putAll]
        go_simp
        refine hK _ _ ?_ hS ((fun w => Below.refl _ w) W) _ rfl rfl
        first | rfl | go_simp | simp
      · -- 26: Op.fieldAddr 39 (Operand.tmp 1) 1  [(24, 'true')]
        intro l hl vs W hS hR hp
        obtain rfl : l = [(0, 20), (1, 21), (2, 22), (3, 23), (4, 24), (5, 25), (6, 26), (7, 27), (8, 28), (9, 29), (10, 30), (11, 31), (12, 32), (13, 33), (14, 34), (15, 35), (16, 36), (17, 37), (18, 38), (19, 39), (20, 40), (21, 41), (22, 42), (23, 43), (24, 44)] := hl.symm.trans (by kernel_rfl)
        have p24 : vs 24 = _ := hp 24 (by decide) (by decide)
        clear hp hl
        refine opgoal (_) (some 46) rfl rfl fun K hK => ?_
        refine Runs.mk ?_
        simp only [putAll]
        go_simp
        refine hK _ _ ?_ hS ((fun w => Below.refl _ w) W) _ rfl rfl
        first | rfl | go_simp | simp
      · -- 27: Op.load 3 (Operand.tmp 46)  [(24, 'true')]
        intro l hl vs W hS hR hp
        obtain rfl : l = [(0, 20), (1, 21), (2, 22), (3, 23), (4, 24), (5, 25), (6, 26), (7, 27), (8, 28), (9, 29), (10, 30), (11, 31), (12, 32), (13, 33), (14, 34), (15, 35), (16, 36), (17, 37), (18, 38), (19, 39), (20, 40), (21, 41), (22, 42), (23, 43), (24, 44), (26, 46)] := hl.symm.trans (by kernel_rfl)
        have p24 : vs 24 = _ := hp 24 (by decide) (by decide)
        have p26 : vs 26 = _ := hp 26 (by decide) (by decide)
        clear hp hl
        refine opgoal (_) (some 47) rfl rfl fun K hK => ?_
        obtain ⟨f0, f1, f2, f3⟩ := HOP.out W hS
        refine Runs.mk ?_
        simp only [putAll]
        go_simp
        refine hK _ _ ?_ hS ((fun w => Below.refl _ w) W) _ rfl rfl
        first | rfl | go_simp | simp
      · -- 28: Op.call { callee := Callee.value (Operand.func 32), args := #[Operand.tmp 45, Operand.tmp 47, Operand.const (Value.int IntKind.i64 0), Operand.const (  [(24, 'true')]
        intro l hl vs W hS hR hp
        obtain rfl : l = [(0, 20), (1, 21), (2, 22), (3, 23), (4, 24), (5, 25), (6, 26), (7, 27), (8, 28), (9, 29), (10, 30), (11, 31), (12, 32), (13, 33), (14, 34), (15, 35), (16, 36), (17, 37), (18, 38), (19, 39), (20, 40), (21, 41), (22, 42), (23, 43), (24, 44), (25, 45), (26, 46), (27, 47)] := hl.symm.trans (by kernel_rfl)
        have p24 : vs 24 = _ := hp 24 (by decide) (by decide)
        have p25 : vs 25 = _ := hp 25 (by decide) (by decide)
        have p27 : vs 27 = _ := hp 27 (by decide) (by decide)
        clear hp hl
        refine opgoal (_) (some 48) rfl rfl fun K hK => ?_
        refine Runs.mk ?_
        simp only [putAll]
        go_simp
        refine (spoil_nil oa 0 1 W).mono ?_
        rintro e w' ⟨rfl, rfl⟩
        go_simp
        exact hK _ _ rfl hS (Below.refl _ _) _ rfl rfl
      · -- 29: Op.binOp BinOp.eql 25 (Operand.tmp 48) (Operand.const (Value.int IntKind.i64 8)) 25  [(24, 'true')]
        intro l hl vs W hS hR hp
        obtain rfl : l = [(0, 20), (1, 21), (2, 22), (3, 23), (4, 24), (5, 25), (6, 26), (7, 27), (8, 28), (9, 29), (10, 30), (11, 31), (12, 32), (13, 33), (14, 34), (15, 35), (16, 36), (17, 37), (18, 38), (19, 39), (20, 40), (21, 41), (22, 42), (23, 43), (24, 44), (25, 45), (26, 46), (27, 47), (28, 48)] := hl.symm.trans (by kernel_rfl)
        have p24 : vs 24 = _ := hp 24 (by decide) (by decide)
        have p28 : vs 28 = _ := hp 28 (by decide) (by decide)
        clear hp hl
        refine opgoal (_) (some 49) rfl rfl fun K hK => ?_
        refine Runs.mk ?_
        simp only [putAll]
        go_simp
        refine hK _ _ ?_ hS ((fun w => Below.refl _ w) W) _ rfl rfl
        first | rfl | go_simp | simp
      · -- 30: Op.pick (Operand.tmp 44) (Operand.tmp 49) (Operand.const (Value.bool false))
        intro l hl vs W hS hR hp
        obtain rfl : l = [(0, 20), (1, 21), (2, 22), (3, 23), (4, 24), (5, 25), (6, 26), (7, 27), (8, 28), (9, 29), (10, 30), (11, 31), (12, 32), (13, 33), (14, 34), (15, 35), (16, 36), (17, 37), (18, 38), (19, 39), (20, 40), (21, 41), (22, 42), (23, 43), (24, 44), (25, 45), (26, 46), (27, 47), (28, 48), (29, 49)] := hl.symm.trans (by kernel_rfl)
        have p24 : vs 24 = _ := hp 24 (by decide) (by decide)
        have p29 : vs 29 = _ := hp 29 (by decide) (by decide)
        clear hp hl
        refine opgoal (_) (some 50) rfl rfl fun K hK => ?_
        refine Runs.mk ?_
        simp only [putAll]
        go_simp
        refine hK _ _ ?_ hS ((fun w => Below.refl _ w) W) _ rfl rfl
        first | rfl | go_simp | simp
      · -- 31: Op.move (Operand.tmp 50)
        intro l hl vs W hS hR hp
        obtain rfl : l = [(0, 20), (1, 21), (2, 22), (3, 23), (4, 24), (5, 25), (6, 26), (7, 27), (8, 28), (9, 29), (10, 30), (11, 31), (12, 32), (13, 33), (14, 34), (15, 35), (16, 36), (17, 37), (18, 38), (19, 39), (20, 40), (21, 41), (22, 42), (23, 43), (24, 44), (25, 45), (26, 46), (27, 47), (28, 48), (29, 49), (30, 50)] := hl.symm.trans (by kernel_rfl)
        have p30 : vs 30 = _ := hp 30 (by decide) (by decide)
        clear hp hl
        refine opgoal (_) (some 51) rfl rfl fun K hK => ?_
        refine Runs.mk ?_
        simp only [putAll]
        go_simp
        refine hK _ _ ?_ hS ((fun w => Below.refl _ w) W) _ rfl rfl
        first | rfl | go_simp | simp
      · -- 32: Op.move (Operand.tmp 3)  [(31, 'true')]
        intro l hl vs W hS hR hp
        obtain rfl : l = [(0, 20), (1, 21), (2, 22), (3, 23), (4, 24), (5, 25), (6, 26), (7, 27), (8, 28), (9, 29), (10, 30), (11, 31), (12, 32), (13, 33), (14, 34), (15, 35), (16, 36), (17, 37), (18, 38), (19, 39), (20, 40), (21, 41), (22, 42), (23, 43), (24, 44), (25, 45), (26, 46), (27, 47), (28, 48), (29, 49), (30, 50), (31, 51)] := hl.symm.trans (by kernel_rfl)
        have p31 : vs 31 = _ := hp 31 (by decide) (by decide)
        clear hp hl
        refine opgoal (_) (some 52) rfl rfl fun K hK => ?_
        refine Runs.mk ?_
        simp only [putAll]
        go_simp
        refine hK _ _ ?_ hS ((fun w => Below.refl _ w) W) _ rfl rfl
        first | rfl | go_simp | simp
      · -- 33: Op.fieldAddr 39 (Operand.tmp 1) 1  [(31, 'true')]
        intro l hl vs W hS hR hp
        obtain rfl : l = [(0, 20), (1, 21), (2, 22), (3, 23), (4, 24), (5, 25), (6, 26), (7, 27), (8, 28), (9, 29), (10, 30), (11, 31), (12, 32), (13, 33), (14, 34), (15, 35), (16, 36), (17, 37), (18, 38), (19, 39), (20, 40), (21, 41), (22, 42), (23, 43), (24, 44), (25, 45), (26, 46), (27, 47), (28, 48), (29, 49), (30, 50), (31, 51)] := hl.symm.trans (by kernel_rfl)
        have p31 : vs 31 = _ := hp 31 (by decide) (by decide)
        clear hp hl
        refine opgoal (_) (some 53) rfl rfl fun K hK => ?_
        refine Runs.mk ?_
        simp only [putAll]
        go_simp
        refine hK _ _ ?_ hS ((fun w => Below.refl _ w) W) _ rfl rfl
        first | rfl | go_simp | simp
      · -- 34: Op.load 3 (Operand.tmp 53)  [(31, 'true')]
        intro l hl vs W hS hR hp
        obtain rfl : l = [(0, 20), (1, 21), (2, 22), (3, 23), (4, 24), (5, 25), (6, 26), (7, 27), (8, 28), (9, 29), (10, 30), (11, 31), (12, 32), (13, 33), (14, 34), (15, 35), (16, 36), (17, 37), (18, 38), (19, 39), (20, 40), (21, 41), (22, 42), (23, 43), (24, 44), (25, 45), (26, 46), (27, 47), (28, 48), (29, 49), (30, 50), (31, 51), (33, 53)] := hl.symm.trans (by kernel_rfl)
        have p31 : vs 31 = _ := hp 31 (by decide) (by decide)
        have p33 : vs 33 = _ := hp 33 (by decide) (by decide)
        clear hp hl
        refine opgoal (_) (some 54) rfl rfl fun K hK => ?_
        obtain ⟨f0, f1, f2, f3⟩ := HOP.out W hS
        refine Runs.mk ?_
        simp only [putAll]
        go_simp
        refine hK _ _ ?_ hS ((fun w => Below.refl _ w) W) _ rfl rfl
        first | rfl | go_simp | simp
      · -- 35: Op.fieldAddr 39 (Operand.tmp 1) 2  [(31, 'true')]
        intro l hl vs W hS hR hp
        obtain rfl : l = [(0, 20), (1, 21), (2, 22), (3, 23), (4, 24), (5, 25), (6, 26), (7, 27), (8, 28), (9, 29), (10, 30), (11, 31), (12, 32), (13, 33), (14, 34), (15, 35), (16, 36), (17, 37), (18, 38), (19, 39), (20, 40), (21, 41), (22, 42), (23, 43), (24, 44), (25, 45), (26, 46), (27, 47), (28, 48), (29, 49), (30, 50), (31, 51)] := hl.symm.trans (by kernel_rfl)
        have p31 : vs 31 = _ := hp 31 (by decide) (by decide)
        clear hp hl
        refine opgoal (_) (some 55) rfl rfl fun K hK => ?_
        refine Runs.mk ?_
        simp only [putAll]
        go_simp
        refine hK _ _ ?_ hS ((fun w => Below.refl _ w) W) _ rfl rfl
        first | rfl | go_simp | simp
      · -- 36: Op.load 3 (Operand.tmp 55)  [(31, 'true')]
        intro l hl vs W hS hR hp
        obtain rfl : l = [(0, 20), (1, 21), (2, 22), (3, 23), (4, 24), (5, 25), (6, 26), (7, 27), (8, 28), (9, 29), (10, 30), (11, 31), (12, 32), (13, 33), (14, 34), (15, 35), (16, 36), (17, 37), (18, 38), (19, 39), (20, 40), (21, 41), (22, 42), (23, 43), (24, 44), (25, 45), (26, 46), (27, 47), (28, 48), (29, 49), (30, 50), (31, 51), (35, 55)] := hl.symm.trans (by kernel_rfl)
        have p31 : vs 31 = _ := hp 31 (by decide) (by decide)
        have p35 : vs 35 = _ := hp 35 (by decide) (by decide)
        clear hp hl
        refine opgoal (_) (some 56) rfl rfl fun K hK => ?_
        obtain ⟨f0, f1, f2, f3⟩ := HOP.out W hS
        refine Runs.mk ?_
        simp only [putAll]
        go_simp
        refine hK _ _ ?_ hS ((fun w => Below.refl _ w) W) _ rfl rfl
        first | rfl | go_simp | simp
      · -- 37: Op.call { callee := Callee.value (Operand.func 23), args := #[Operand.tmp 52, Operand.tmp 54, Operand.tmp 56], argTypes := #[24, 3, 3] }  [(31, 'true')]
        intro l hl vs W hS hR hp
        obtain rfl : l = [(0, 20), (1, 21), (2, 22), (3, 23), (4, 24), (5, 25), (6, 26), (7, 27), (8, 28), (9, 29), (10, 30), (11, 31), (12, 32), (13, 33), (14, 34), (15, 35), (16, 36), (17, 37), (18, 38), (19, 39), (20, 40), (21, 41), (22, 42), (23, 43), (24, 44), (25, 45), (26, 46), (27, 47), (28, 48), (29, 49), (30, 50), (31, 51), (32, 52), (33, 53), (34, 54), (35, 55), (36, 56)] := hl.symm.trans (by kernel_rfl)
        have p31 : vs 31 = _ := hp 31 (by decide) (by decide)
        have p32 : vs 32 = _ := hp 32 (by decide) (by decide)
        have p34 : vs 34 = _ := hp 34 (by decide) (by decide)
        have p36 : vs 36 = _ := hp 36 (by decide) (by decide)
        clear hp hl
        refine opgoal (_) (some 57) rfl rfl fun K hK => ?_
        refine Runs.mk ?_
        simp only [putAll]
        go_simp
        refine (cut_nil oa obb W).mono ?_
        rintro e w' ⟨rfl, rfl⟩
        go_simp
        exact hK _ _ rfl hS (Below.refl _ _) _ rfl rfl
      · -- 38: Op.binOp BinOp.eql 25 (Operand.tmp 57) (Operand.const (Value.int IntKind.i64 1)) 25  [(31, 'true')]
        intro l hl vs W hS hR hp
        obtain rfl : l = [(0, 20), (1, 21), (2, 22), (3, 23), (4, 24), (5, 25), (6, 26), (7, 27), (8, 28), (9, 29), (10, 30), (11, 31), (12, 32), (13, 33), (14, 34), (15, 35), (16, 36), (17, 37), (18, 38), (19, 39), (20, 40), (21, 41), (22, 42), (23, 43), (24, 44), (25, 45), (26, 46), (27, 47), (28, 48), (29, 49), (30, 50), (31, 51), (32, 52), (33, 53), (34, 54), (35, 55), (36, 56), (37, 57)] := hl.symm.trans (by kernel_rfl)
        have p31 : vs 31 = _ := hp 31 (by decide) (by decide)
        have p37 : vs 37 = _ := hp 37 (by decide) (by decide)
        clear hp hl
        refine opgoal (_) (some 58) rfl rfl fun K hK => ?_
        refine Runs.mk ?_
        simp only [putAll]
        go_simp
        refine hK _ _ ?_ hS ((fun w => Below.refl _ w) W) _ rfl rfl
        first | rfl | go_simp | simp
      · -- 39: Op.pick (Operand.tmp 51) (Operand.tmp 58) (Operand.const (Value.bool false))
        intro l hl vs W hS hR hp
        obtain rfl : l = [(0, 20), (1, 21), (2, 22), (3, 23), (4, 24), (5, 25), (6, 26), (7, 27), (8, 28), (9, 29), (10, 30), (11, 31), (12, 32), (13, 33), (14, 34), (15, 35), (16, 36), (17, 37), (18, 38), (19, 39), (20, 40), (21, 41), (22, 42), (23, 43), (24, 44), (25, 45), (26, 46), (27, 47), (28, 48), (29, 49), (30, 50), (31, 51), (32, 52), (33, 53), (34, 54), (35, 55), (36, 56), (37, 57), (38, 58)] := hl.symm.trans (by kernel_rfl)
        have p31 : vs 31 = _ := hp 31 (by decide) (by decide)
        have p38 : vs 38 = _ := hp 38 (by decide) (by decide)
        clear hp hl
        refine opgoal (_) (some 59) rfl rfl fun K hK => ?_
        refine Runs.mk ?_
        simp only [putAll]
        go_simp
        refine hK _ _ ?_ hS ((fun w => Below.refl _ w) W) _ rfl rfl
        first | rfl | go_simp | simp
      · -- 40: Op.move (Operand.tmp 59)
        intro l hl vs W hS hR hp
        obtain rfl : l = [(0, 20), (1, 21), (2, 22), (3, 23), (4, 24), (5, 25), (6, 26), (7, 27), (8, 28), (9, 29), (10, 30), (11, 31), (12, 32), (13, 33), (14, 34), (15, 35), (16, 36), (17, 37), (18, 38), (19, 39), (20, 40), (21, 41), (22, 42), (23, 43), (24, 44), (25, 45), (26, 46), (27, 47), (28, 48), (29, 49), (30, 50), (31, 51), (32, 52), (33, 53), (34, 54), (35, 55), (36, 56), (37, 57), (38, 58), (39, 59)] := hl.symm.trans (by kernel_rfl)
        have p39 : vs 39 = _ := hp 39 (by decide) (by decide)
        clear hp hl
        refine opgoal (_) (some 60) rfl rfl fun K hK => ?_
        refine Runs.mk ?_
        simp only [putAll]
        go_simp
        refine hK _ _ ?_ hS ((fun w => Below.refl _ w) W) _ rfl rfl
        first | rfl | go_simp | simp
      · -- 41: Op.move (Operand.tmp 3)  [(40, 'true')]
        intro l hl vs W hS hR hp
        obtain rfl : l = [(0, 20), (1, 21), (2, 22), (3, 23), (4, 24), (5, 25), (6, 26), (7, 27), (8, 28), (9, 29), (10, 30), (11, 31), (12, 32), (13, 33), (14, 34), (15, 35), (16, 36), (17, 37), (18, 38), (19, 39), (20, 40), (21, 41), (22, 42), (23, 43), (24, 44), (25, 45), (26, 46), (27, 47), (28, 48), (29, 49), (30, 50), (31, 51), (32, 52), (33, 53), (34, 54), (35, 55), (36, 56), (37, 57), (38, 58), (39, 59), (40, 60)] := hl.symm.trans (by kernel_rfl)
        have p40 : vs 40 = _ := hp 40 (by decide) (by decide)
        clear hp hl
        refine opgoal (_) (some 61) rfl rfl fun K hK => ?_
        refine Runs.mk ?_
        simp only [putAll]
        go_simp
        refine hK _ _ ?_ hS ((fun w => Below.refl _ w) W) _ rfl rfl
        first | rfl | go_simp | simp
      · -- 42: Op.fieldAddr 39 (Operand.tmp 1) 1  [(40, 'true')]
        intro l hl vs W hS hR hp
        obtain rfl : l = [(0, 20), (1, 21), (2, 22), (3, 23), (4, 24), (5, 25), (6, 26), (7, 27), (8, 28), (9, 29), (10, 30), (11, 31), (12, 32), (13, 33), (14, 34), (15, 35), (16, 36), (17, 37), (18, 38), (19, 39), (20, 40), (21, 41), (22, 42), (23, 43), (24, 44), (25, 45), (26, 46), (27, 47), (28, 48), (29, 49), (30, 50), (31, 51), (32, 52), (33, 53), (34, 54), (35, 55), (36, 56), (37, 57), (38, 58), (39, 59), (40, 60)] := hl.symm.trans (by kernel_rfl)
        have p40 : vs 40 = _ := hp 40 (by decide) (by decide)
        clear hp hl
        refine opgoal (_) (some 62) rfl rfl fun K hK => ?_
        refine Runs.mk ?_
        simp only [putAll]
        go_simp
        refine hK _ _ ?_ hS ((fun w => Below.refl _ w) W) _ rfl rfl
        first | rfl | go_simp | simp
      · -- 43: Op.load 3 (Operand.tmp 62)  [(40, 'true')]
        intro l hl vs W hS hR hp
        obtain rfl : l = [(0, 20), (1, 21), (2, 22), (3, 23), (4, 24), (5, 25), (6, 26), (7, 27), (8, 28), (9, 29), (10, 30), (11, 31), (12, 32), (13, 33), (14, 34), (15, 35), (16, 36), (17, 37), (18, 38), (19, 39), (20, 40), (21, 41), (22, 42), (23, 43), (24, 44), (25, 45), (26, 46), (27, 47), (28, 48), (29, 49), (30, 50), (31, 51), (32, 52), (33, 53), (34, 54), (35, 55), (36, 56), (37, 57), (38, 58), (39, 59), (40, 60), (42, 62)] := hl.symm.trans (by kernel_rfl)
        have p40 : vs 40 = _ := hp 40 (by decide) (by decide)
        have p42 : vs 42 = _ := hp 42 (by decide) (by decide)
        clear hp hl
        refine opgoal (_) (some 63) rfl rfl fun K hK => ?_
        obtain ⟨f0, f1, f2, f3⟩ := HOP.out W hS
        refine Runs.mk ?_
        simp only [putAll]
        go_simp
        refine hK _ _ ?_ hS ((fun w => Below.refl _ w) W) _ rfl rfl
        first | rfl | go_simp | simp
      · -- 44: Op.fieldAddr 39 (Operand.tmp 1) 2  [(40, 'true')]
        intro l hl vs W hS hR hp
        obtain rfl : l = [(0, 20), (1, 21), (2, 22), (3, 23), (4, 24), (5, 25), (6, 26), (7, 27), (8, 28), (9, 29), (10, 30), (11, 31), (12, 32), (13, 33), (14, 34), (15, 35), (16, 36), (17, 37), (18, 38), (19, 39), (20, 40), (21, 41), (22, 42), (23, 43), (24, 44), (25, 45), (26, 46), (27, 47), (28, 48), (29, 49), (30, 50), (31, 51), (32, 52), (33, 53), (34, 54), (35, 55), (36, 56), (37, 57), (38, 58), (39, 59), (40, 60)] := hl.symm.trans (by kernel_rfl)
        have p40 : vs 40 = _ := hp 40 (by decide) (by decide)
        clear hp hl
        refine opgoal (_) (some 64) rfl rfl fun K hK => ?_
        refine Runs.mk ?_
        simp only [putAll]
        go_simp
        refine hK _ _ ?_ hS ((fun w => Below.refl _ w) W) _ rfl rfl
        first | rfl | go_simp | simp
      · -- 45: Op.load 3 (Operand.tmp 64)  [(40, 'true')]
        intro l hl vs W hS hR hp
        obtain rfl : l = [(0, 20), (1, 21), (2, 22), (3, 23), (4, 24), (5, 25), (6, 26), (7, 27), (8, 28), (9, 29), (10, 30), (11, 31), (12, 32), (13, 33), (14, 34), (15, 35), (16, 36), (17, 37), (18, 38), (19, 39), (20, 40), (21, 41), (22, 42), (23, 43), (24, 44), (25, 45), (26, 46), (27, 47), (28, 48), (29, 49), (30, 50), (31, 51), (32, 52), (33, 53), (34, 54), (35, 55), (36, 56), (37, 57), (38, 58), (39, 59), (40, 60), (44, 64)] := hl.symm.trans (by kernel_rfl)
        have p40 : vs 40 = _ := hp 40 (by decide) (by decide)
        have p44 : vs 44 = _ := hp 44 (by decide) (by decide)
        clear hp hl
        refine opgoal (_) (some 65) rfl rfl fun K hK => ?_
        obtain ⟨f0, f1, f2, f3⟩ := HOP.out W hS
        refine Runs.mk ?_
        simp only [putAll]
        go_simp
        refine hK _ _ ?_ hS ((fun w => Below.refl _ w) W) _ rfl rfl
        first | rfl | go_simp | simp
      · -- 46: Op.call { callee := Callee.value (Operand.func 24), args := #[Operand.tmp 61, Operand.tmp 63, Operand.tmp 65], argTypes := #[24, 3, 3] }  [(40, 'true')]
        intro l hl vs W hS hR hp
        obtain rfl : l = [(0, 20), (1, 21), (2, 22), (3, 23), (4, 24), (5, 25), (6, 26), (7, 27), (8, 28), (9, 29), (10, 30), (11, 31), (12, 32), (13, 33), (14, 34), (15, 35), (16, 36), (17, 37), (18, 38), (19, 39), (20, 40), (21, 41), (22, 42), (23, 43), (24, 44), (25, 45), (26, 46), (27, 47), (28, 48), (29, 49), (30, 50), (31, 51), (32, 52), (33, 53), (34, 54), (35, 55), (36, 56), (37, 57), (38, 58), (39, 59), (40, 60), (41, 61), (42, 62), (43, 63), (44, 64), (45, 65)] := hl.symm.trans (by kernel_rfl)
        have p40 : vs 40 = _ := hp 40 (by decide) (by decide)
        have p41 : vs 41 = _ := hp 41 (by decide) (by decide)
        have p43 : vs 43 = _ := hp 43 (by decide) (by decide)
        have p45 : vs 45 = _ := hp 45 (by decide) (by decide)
        clear hp hl
        refine opgoal (_) (some 66) rfl rfl fun K hK => ?_
        refine Runs.mk ?_
        simp only [putAll]
        go_simp
        refine (heal_nil oa obb W).mono ?_
        rintro e w' ⟨rfl, rfl⟩
        go_simp
        exact hK _ _ rfl hS (Below.refl _ _) _ rfl rfl
      · -- 47: Op.binOp BinOp.eql 25 (Operand.tmp 66) (Operand.const (Value.int IntKind.i64 1)) 25  [(40, 'true')]
        intro l hl vs W hS hR hp
        obtain rfl : l = [(0, 20), (1, 21), (2, 22), (3, 23), (4, 24), (5, 25), (6, 26), (7, 27), (8, 28), (9, 29), (10, 30), (11, 31), (12, 32), (13, 33), (14, 34), (15, 35), (16, 36), (17, 37), (18, 38), (19, 39), (20, 40), (21, 41), (22, 42), (23, 43), (24, 44), (25, 45), (26, 46), (27, 47), (28, 48), (29, 49), (30, 50), (31, 51), (32, 52), (33, 53), (34, 54), (35, 55), (36, 56), (37, 57), (38, 58), (39, 59), (40, 60), (41, 61), (42, 62), (43, 63), (44, 64), (45, 65), (46, 66)] := hl.symm.trans (by kernel_rfl)
        have p40 : vs 40 = _ := hp 40 (by decide) (by decide)
        have p46 : vs 46 = _ := hp 46 (by decide) (by decide)
        clear hp hl
        refine opgoal (_) (some 67) rfl rfl fun K hK => ?_
        refine Runs.mk ?_
        simp only [putAll]
        go_simp
        refine hK _ _ ?_ hS ((fun w => Below.refl _ w) W) _ rfl rfl
        first | rfl | go_simp | simp
      · -- 48: Op.pick (Operand.tmp 60) (Operand.tmp 67) (Operand.const (Value.bool false))
        intro l hl vs W hS hR hp
        obtain rfl : l = [(0, 20), (1, 21), (2, 22), (3, 23), (4, 24), (5, 25), (6, 26), (7, 27), (8, 28), (9, 29), (10, 30), (11, 31), (12, 32), (13, 33), (14, 34), (15, 35), (16, 36), (17, 37), (18, 38), (19, 39), (20, 40), (21, 41), (22, 42), (23, 43), (24, 44), (25, 45), (26, 46), (27, 47), (28, 48), (29, 49), (30, 50), (31, 51), (32, 52), (33, 53), (34, 54), (35, 55), (36, 56), (37, 57), (38, 58), (39, 59), (40, 60), (41, 61), (42, 62), (43, 63), (44, 64), (45, 65), (46, 66), (47, 67)] := hl.symm.trans (by kernel_rfl)
        have p40 : vs 40 = _ := hp 40 (by decide) (by decide)
        have p47 : vs 47 = _ := hp 47 (by decide) (by decide)
        clear hp hl
        refine opgoal (_) (some 68) rfl rfl fun K hK => ?_
        refine Runs.mk ?_
        simp only [putAll]
        go_simp
        refine hK _ _ ?_ hS ((fun w => Below.refl _ w) W) _ rfl rfl
        first | rfl | go_simp | simp
      · -- 49: Op.move (Operand.tmp 68)
        intro l hl vs W hS hR hp
        obtain rfl : l = [(0, 20), (1, 21), (2, 22), (3, 23), (4, 24), (5, 25), (6, 26), (7, 27), (8, 28), (9, 29), (10, 30), (11, 31), (12, 32), (13, 33), (14, 34), (15, 35), (16, 36), (17, 37), (18, 38), (19, 39), (20, 40), (21, 41), (22, 42), (23, 43), (24, 44), (25, 45), (26, 46), (27, 47), (28, 48), (29, 49), (30, 50), (31, 51), (32, 52), (33, 53), (34, 54), (35, 55), (36, 56), (37, 57), (38, 58), (39, 59), (40, 60), (41, 61), (42, 62), (43, 63), (44, 64), (45, 65), (46, 66), (47, 67), (48, 68)] := hl.symm.trans (by kernel_rfl)
        have p48 : vs 48 = _ := hp 48 (by decide) (by decide)
        clear hp hl
        refine opgoal (_) (some 69) rfl rfl fun K hK => ?_
        refine Runs.mk ?_
        simp only [putAll]
        go_simp
        refine hK _ _ ?_ hS ((fun w => Below.refl _ w) W) _ rfl rfl
        first | rfl | go_simp | simp
      · -- 50: Op.move (Operand.tmp 3)  [(49, 'true')]
        intro l hl vs W hS hR hp
        obtain rfl : l = [(0, 20), (1, 21), (2, 22), (3, 23), (4, 24), (5, 25), (6, 26), (7, 27), (8, 28), (9, 29), (10, 30), (11, 31), (12, 32), (13, 33), (14, 34), (15, 35), (16, 36), (17, 37), (18, 38), (19, 39), (20, 40), (21, 41), (22, 42), (23, 43), (24, 44), (25, 45), (26, 46), (27, 47), (28, 48), (29, 49), (30, 50), (31, 51), (32, 52), (33, 53), (34, 54), (35, 55), (36, 56), (37, 57), (38, 58), (39, 59), (40, 60), (41, 61), (42, 62), (43, 63), (44, 64), (45, 65), (46, 66), (47, 67), (48, 68), (49, 69)] := hl.symm.trans (by kernel_rfl)
        have p49 : vs 49 = _ := hp 49 (by decide) (by decide)
        clear hp hl
        refine opgoal (_) (some 70) rfl rfl fun K hK => ?_
        refine Runs.mk ?_
        simp only [putAll]
        go_simp
        refine hK _ _ ?_ hS ((fun w => Below.refl _ w) W) _ rfl rfl
        first | rfl | go_simp | simp
      · -- 51: Op.call { callee := Callee.value (Operand.func 18), args := #[Operand.tmp 70], argTypes := #[24] }  [(49, 'true')]
        intro l hl vs W hS hR hp
        obtain rfl : l = [(0, 20), (1, 21), (2, 22), (3, 23), (4, 24), (5, 25), (6, 26), (7, 27), (8, 28), (9, 29), (10, 30), (11, 31), (12, 32), (13, 33), (14, 34), (15, 35), (16, 36), (17, 37), (18, 38), (19, 39), (20, 40), (21, 41), (22, 42), (23, 43), (24, 44), (25, 45), (26, 46), (27, 47), (28, 48), (29, 49), (30, 50), (31, 51), (32, 52), (33, 53), (34, 54), (35, 55), (36, 56), (37, 57), (38, 58), (39, 59), (40, 60), (41, 61), (42, 62), (43, 63), (44, 64), (45, 65), (46, 66), (47, 67), (48, 68), (49, 69), (50, 70)] := hl.symm.trans (by kernel_rfl)
        have p49 : vs 49 = _ := hp 49 (by decide) (by decide)
        have p50 : vs 50 = _ := hp 50 (by decide) (by decide)
        clear hp hl
        refine opgoal (_) (some 71) rfl rfl fun K hK => ?_
        refine Runs.mk ?_
        simp only [putAll]
        go_simp
        refine (len_nil W).mono ?_
        rintro e w' ⟨rfl, rfl⟩
        go_simp
        exact hK _ _ rfl hS (Below.refl _ _) _ rfl rfl
      · -- 52: Op.binOp BinOp.eql 3 (Operand.tmp 71) (Operand.const (Value.int IntKind.i64 0)) 3  [(49, 'true')]
        intro l hl vs W hS hR hp
        obtain rfl : l = [(0, 20), (1, 21), (2, 22), (3, 23), (4, 24), (5, 25), (6, 26), (7, 27), (8, 28), (9, 29), (10, 30), (11, 31), (12, 32), (13, 33), (14, 34), (15, 35), (16, 36), (17, 37), (18, 38), (19, 39), (20, 40), (21, 41), (22, 42), (23, 43), (24, 44), (25, 45), (26, 46), (27, 47), (28, 48), (29, 49), (30, 50), (31, 51), (32, 52), (33, 53), (34, 54), (35, 55), (36, 56), (37, 57), (38, 58), (39, 59), (40, 60), (41, 61), (42, 62), (43, 63), (44, 64), (45, 65), (46, 66), (47, 67), (48, 68), (49, 69), (50, 70), (51, 71)] := hl.symm.trans (by kernel_rfl)
        have p49 : vs 49 = _ := hp 49 (by decide) (by decide)
        have p51 : vs 51 = _ := hp 51 (by decide) (by decide)
        clear hp hl
        refine opgoal (_) (some 72) rfl rfl fun K hK => ?_
        refine Runs.mk ?_
        simp only [putAll]
        go_simp
        refine hK _ _ ?_ hS ((fun w => Below.refl _ w) W) _ rfl rfl
        first | rfl | go_simp | simp
      · -- 53: Op.pick (Operand.tmp 69) (Operand.tmp 72) (Operand.const (Value.bool false))
        intro l hl vs W hS hR hp
        obtain rfl : l = [(0, 20), (1, 21), (2, 22), (3, 23), (4, 24), (5, 25), (6, 26), (7, 27), (8, 28), (9, 29), (10, 30), (11, 31), (12, 32), (13, 33), (14, 34), (15, 35), (16, 36), (17, 37), (18, 38), (19, 39), (20, 40), (21, 41), (22, 42), (23, 43), (24, 44), (25, 45), (26, 46), (27, 47), (28, 48), (29, 49), (30, 50), (31, 51), (32, 52), (33, 53), (34, 54), (35, 55), (36, 56), (37, 57), (38, 58), (39, 59), (40, 60), (41, 61), (42, 62), (43, 63), (44, 64), (45, 65), (46, 66), (47, 67), (48, 68), (49, 69), (50, 70), (51, 71), (52, 72)] := hl.symm.trans (by kernel_rfl)
        have p49 : vs 49 = _ := hp 49 (by decide) (by decide)
        have p52 : vs 52 = _ := hp 52 (by decide) (by decide)
        clear hp hl
        refine opgoal (_) (some 73) rfl rfl fun K hK => ?_
        refine Runs.mk ?_
        simp only [putAll]
        go_simp
        refine hK _ _ ?_ hS ((fun w => Below.refl _ w) W) _ rfl rfl
        first | rfl | go_simp | simp
      · -- 54: Op.move (Operand.tmp 73)
        intro l hl vs W hS hR hp
        obtain rfl : l = [(0, 20), (1, 21), (2, 22), (3, 23), (4, 24), (5, 25), (6, 26), (7, 27), (8, 28), (9, 29), (10, 30), (11, 31), (12, 32), (13, 33), (14, 34), (15, 35), (16, 36), (17, 37), (18, 38), (19, 39), (20, 40), (21, 41), (22, 42), (23, 43), (24, 44), (25, 45), (26, 46), (27, 47), (28, 48), (29, 49), (30, 50), (31, 51), (32, 52), (33, 53), (34, 54), (35, 55), (36, 56), (37, 57), (38, 58), (39, 59), (40, 60), (41, 61), (42, 62), (43, 63), (44, 64), (45, 65), (46, 66), (47, 67), (48, 68), (49, 69), (50, 70), (51, 71), (52, 72), (53, 73)] := hl.symm.trans (by kernel_rfl)
        have p53 : vs 53 = _ := hp 53 (by decide) (by decide)
        clear hp hl
        refine opgoal (_) (some 74) rfl rfl fun K hK => ?_
        refine Runs.mk ?_
        simp only [putAll]
        go_simp
        refine hK _ _ ?_ hS ((fun w => Below.refl _ w) W) _ rfl rfl
        first | rfl | go_simp | simp
      · -- 55: Op.move (Operand.tmp 3)  [(54, 'true')]
        intro l hl vs W hS hR hp
        obtain rfl : l = [(0, 20), (1, 21), (2, 22), (3, 23), (4, 24), (5, 25), (6, 26), (7, 27), (8, 28), (9, 29), (10, 30), (11, 31), (12, 32), (13, 33), (14, 34), (15, 35), (16, 36), (17, 37), (18, 38), (19, 39), (20, 40), (21, 41), (22, 42), (23, 43), (24, 44), (25, 45), (26, 46), (27, 47), (28, 48), (29, 49), (30, 50), (31, 51), (32, 52), (33, 53), (34, 54), (35, 55), (36, 56), (37, 57), (38, 58), (39, 59), (40, 60), (41, 61), (42, 62), (43, 63), (44, 64), (45, 65), (46, 66), (47, 67), (48, 68), (49, 69), (50, 70), (51, 71), (52, 72), (53, 73), (54, 74)] := hl.symm.trans (by kernel_rfl)
        have p54 : vs 54 = _ := hp 54 (by decide) (by decide)
        clear hp hl
        refine opgoal (_) (some 75) rfl rfl fun K hK => ?_
        refine Runs.mk ?_
        simp only [putAll]
        go_simp
        refine hK _ _ ?_ hS ((fun w => Below.refl _ w) W) _ rfl rfl
        first | rfl | go_simp | simp
      · -- 56: Op.call { callee := Callee.value (Operand.func 21), args := #[Operand.tmp 75], argTypes := #[24] }  [(54, 'true')]
        intro l hl vs W hS hR hp
        obtain rfl : l = [(0, 20), (1, 21), (2, 22), (3, 23), (4, 24), (5, 25), (6, 26), (7, 27), (8, 28), (9, 29), (10, 30), (11, 31), (12, 32), (13, 33), (14, 34), (15, 35), (16, 36), (17, 37), (18, 38), (19, 39), (20, 40), (21, 41), (22, 42), (23, 43), (24, 44), (25, 45), (26, 46), (27, 47), (28, 48), (29, 49), (30, 50), (31, 51), (32, 52), (33, 53), (34, 54), (35, 55), (36, 56), (37, 57), (38, 58), (39, 59), (40, 60), (41, 61), (42, 62), (43, 63), (44, 64), (45, 65), (46, 66), (47, 67), (48, 68), (49, 69), (50, 70), (51, 71), (52, 72), (53, 73), (54, 74), (55, 75)] := hl.symm.trans (by kernel_rfl)
        have p54 : vs 54 = _ := hp 54 (by decide) (by decide)
        have p55 : vs 55 = _ := hp 55 (by decide) (by decide)
        clear hp hl
        refine opgoal (_) (some 76) rfl rfl fun K hK => ?_
        refine Runs.mk ?_
        simp only [putAll]
        go_simp
        refine (all_nil W).mono ?_
        rintro e w' ⟨rfl, rfl⟩
        go_simp
        exact hK _ _ rfl hS (Below.refl _ _) _ rfl rfl
      · -- 57: Op.call { callee := Callee.builtin Builtin.len, args := #[Operand.tmp 76], argTypes := #[22] }  [(54, 'true')]
        intro l hl vs W hS hR hp
        obtain rfl : l = [(0, 20), (1, 21), (2, 22), (3, 23), (4, 24), (5, 25), (6, 26), (7, 27), (8, 28), (9, 29), (10, 30), (11, 31), (12, 32), (13, 33), (14, 34), (15, 35), (16, 36), (17, 37), (18, 38), (19, 39), (20, 40), (21, 41), (22, 42), (23, 43), (24, 44), (25, 45), (26, 46), (27, 47), (28, 48), (29, 49), (30, 50), (31, 51), (32, 52), (33, 53), (34, 54), (35, 55), (36, 56), (37, 57), (38, 58), (39, 59), (40, 60), (41, 61), (42, 62), (43, 63), (44, 64), (45, 65), (46, 66), (47, 67), (48, 68), (49, 69), (50, 70), (51, 71), (52, 72), (53, 73), (54, 74), (55, 75), (56, 76)] := hl.symm.trans (by kernel_rfl)
        have p54 : vs 54 = _ := hp 54 (by decide) (by decide)
        have p56 : vs 56 = _ := hp 56 (by decide) (by decide)
        clear hp hl
        refine opgoal (_) (some 77) rfl rfl fun K hK => ?_
        refine Runs.mk ?_
        simp only [putAll]
        go_simp
        refine hK _ _ ?_ hS ((fun w => Below.refl _ w) W) _ rfl rfl
        first | rfl | go_simp | simp
      · -- 58: Op.binOp BinOp.eql 3 (Operand.tmp 77) (Operand.const (Value.int IntKind.i64 0)) 3  [(54, 'true')]
        intro l hl vs W hS hR hp
        obtain rfl : l = [(0, 20), (1, 21), (2, 22), (3, 23), (4, 24), (5, 25), (6, 26), (7, 27), (8, 28), (9, 29), (10, 30), (11, 31), (12, 32), (13, 33), (14, 34), (15, 35), (16, 36), (17, 37), (18, 38), (19, 39), (20, 40), (21, 41), (22, 42), (23, 43), (24, 44), (25, 45), (26, 46), (27, 47), (28, 48), (29, 49), (30, 50), (31, 51), (32, 52), (33, 53), (34, 54), (35, 55), (36, 56), (37, 57), (38, 58), (39, 59), (40, 60), (41, 61), (42, 62), (43, 63), (44, 64), (45, 65), (46, 66), (47, 67), (48, 68), (49, 69), (50, 70), (51, 71), (52, 72), (53, 73), (54, 74), (55, 75), (56, 76), (57, 77)] := hl.symm.trans (by kernel_rfl)
        have p54 : vs 54 = _ := hp 54 (by decide) (by decide)
        have p57 : vs 57 = _ := hp 57 (by decide) (by decide)
        clear hp hl
        refine opgoal (_) (some 78) rfl rfl fun K hK => ?_
        refine Runs.mk ?_
        simp only [putAll]
        go_simp
        refine hK _ _ ?_ hS ((fun w => Below.refl _ w) W) _ rfl rfl
        first | rfl | go_simp | simp
      · -- 59: Op.pick (Operand.tmp 74) (Operand.tmp 78) (Operand.const (Value.bool false))
        intro l hl vs W hS hR hp
        obtain rfl : l = [(0, 20), (1, 21), (2, 22), (3, 23), (4, 24), (5, 25), (6, 26), (7, 27), (8, 28), (9, 29), (10, 30), (11, 31), (12, 32), (13, 33), (14, 34), (15, 35), (16, 36), (17, 37), (18, 38), (19, 39), (20, 40), (21, 41), (22, 42), (23, 43), (24, 44), (25, 45), (26, 46), (27, 47), (28, 48), (29, 49), (30, 50), (31, 51), (32, 52), (33, 53), (34, 54), (35, 55), (36, 56), (37, 57), (38, 58), (39, 59), (40, 60), (41, 61), (42, 62), (43, 63), (44, 64), (45, 65), (46, 66), (47, 67), (48, 68), (49, 69), (50, 70), (51, 71), (52, 72), (53, 73), (54, 74), (55, 75), (56, 76), (57, 77), (58, 78)] := hl.symm.trans (by kernel_rfl)
        have p54 : vs 54 = _ := hp 54 (by decide) (by decide)
        have p58 : vs 58 = _ := hp 58 (by decide) (by decide)
        clear hp hl
        refine opgoal (_) (some 79) rfl rfl fun K hK => ?_
        refine Runs.mk ?_
        simp only [putAll]
        go_simp
        refine hK _ _ ?_ hS ((fun w => Below.refl _ w) W) _ rfl rfl
        first | rfl | go_simp | simp
      · -- 60: Op.assign (Operand.tmp 79)
        intro l hl vs W hS hR hp
        obtain rfl : l = [(0, 20), (1, 21), (2, 22), (3, 23), (4, 24), (5, 25), (6, 26), (7, 27), (8, 28), (9, 29), (10, 30), (11, 31), (12, 32), (13, 33), (14, 34), (15, 35), (16, 36), (17, 37), (18, 38), (19, 39), (20, 40), (21, 41), (22, 42), (23, 43), (24, 44), (25, 45), (26, 46), (27, 47), (28, 48), (29, 49), (30, 50), (31, 51), (32, 52), (33, 53), (34, 54), (35, 55), (36, 56), (37, 57), (38, 58), (39, 59), (40, 60), (41, 61), (42, 62), (43, 63), (44, 64), (45, 65), (46, 66), (47, 67), (48, 68), (49, 69), (50, 70), (51, 71), (52, 72), (53, 73), (54, 74), (55, 75), (56, 76), (57, 77), (58, 78), (59, 79)] := hl.symm.trans (by kernel_rfl)
        have p59 : vs 59 = _ := hp 59 (by decide) (by decide)
        clear hp hl
        refine opgoal (_) (some 2) rfl rfl fun K hK => ?_
        refine Runs.mk ?_
        simp only [putAll]
        go_simp
        refine hK _ _ ?_ hS ((fun w => Below.refl _ w) W) _ rfl rfl
        first | rfl | go_simp | simp
    · intro l hl vs W hS hR hp
      obtain rfl : l = [(0, 20), (1, 21), (2, 22), (3, 23), (4, 24), (5, 25), (6, 26), (7, 27), (8, 28), (9, 29), (10, 30), (11, 31), (12, 32), (13, 33), (14, 34), (15, 35), (16, 36), (17, 37), (18, 38), (19, 39), (20, 40), (21, 41), (22, 42), (23, 43), (24, 44), (25, 45), (26, 46), (27, 47), (28, 48), (29, 49), (30, 50), (31, 51), (32, 52), (33, 53), (34, 54), (35, 55), (36, 56), (37, 57), (38, 58), (39, 59), (40, 60), (41, 61), (42, 62), (43, 63), (44, 64), (45, 65), (46, 66), (47, 67), (48, 68), (49, 69), (50, 70), (51, 71), (52, 72), (53, 73), (54, 74), (55, 75), (56, 76), (57, 77), (58, 78), (59, 79), (60, 2)] := hl.symm.trans (by kernel_rfl)
      have p0 : vs 0 = _ := hp 0 (by decide) (by decide)
      have p1 : vs 1 = _ := hp 1 (by decide) (by decide)
      have p2 : vs 2 = _ := hp 2 (by decide) (by decide)
      have p3 : vs 3 = _ := hp 3 (by decide) (by decide)
      have p4 : vs 4 = _ := hp 4 (by decide) (by decide)
      have p5 : vs 5 = _ := hp 5 (by decide) (by decide)
      have p6 : vs 6 = _ := hp 6 (by decide) (by decide)
      have p7 : vs 7 = _ := hp 7 (by decide) (by decide)
      have p8 : vs 8 = _ := hp 8 (by decide) (by decide)
      have p9 : vs 9 = _ := hp 9 (by decide) (by decide)
      have p10 : vs 10 = _ := hp 10 (by decide) (by decide)
      have p11 : vs 11 = _ := hp 11 (by decide) (by decide)
      have p12 : vs 12 = _ := hp 12 (by decide) (by decide)
      have p13 : vs 13 = _ := hp 13 (by decide) (by decide)
      have p14 : vs 14 = _ := hp 14 (by decide) (by decide)
      have p15 : vs 15 = _ := hp 15 (by decide) (by decide)
      have p16 : vs 16 = _ := hp 16 (by decide) (by decide)
      have p17 : vs 17 = _ := hp 17 (by decide) (by decide)
      have p18 : vs 18 = _ := hp 18 (by decide) (by decide)
      have p19 : vs 19 = _ := hp 19 (by decide) (by decide)
      have p20 : vs 20 = _ := hp 20 (by decide) (by decide)
      have p21 : vs 21 = _ := hp 21 (by decide) (by decide)
      have p22 : vs 22 = _ := hp 22 (by decide) (by decide)
      have p23 : vs 23 = _ := hp 23 (by decide) (by decide)
      have p24 : vs 24 = _ := hp 24 (by decide) (by decide)
      have p25 : vs 25 = _ := hp 25 (by decide) (by decide)
      have p26 : vs 26 = _ := hp 26 (by decide) (by decide)
      have p27 : vs 27 = _ := hp 27 (by decide) (by decide)
      have p28 : vs 28 = _ := hp 28 (by decide) (by decide)
      have p29 : vs 29 = _ := hp 29 (by decide) (by decide)
      have p30 : vs 30 = _ := hp 30 (by decide) (by decide)
      have p31 : vs 31 = _ := hp 31 (by decide) (by decide)
      have p32 : vs 32 = _ := hp 32 (by decide) (by decide)
      have p33 : vs 33 = _ := hp 33 (by decide) (by decide)
      have p34 : vs 34 = _ := hp 34 (by decide) (by decide)
      have p35 : vs 35 = _ := hp 35 (by decide) (by decide)
      have p36 : vs 36 = _ := hp 36 (by decide) (by decide)
      have p37 : vs 37 = _ := hp 37 (by decide) (by decide)
      have p38 : vs 38 = _ := hp 38 (by decide) (by decide)
      have p39 : vs 39 = _ := hp 39 (by decide) (by decide)
      have p40 : vs 40 = _ := hp 40 (by decide) (by decide)
      have p41 : vs 41 = _ := hp 41 (by decide) (by decide)
      have p42 : vs 42 = _ := hp 42 (by decide) (by decide)
      have p43 : vs 43 = _ := hp 43 (by decide) (by decide)
      have p44 : vs 44 = _ := hp 44 (by decide) (by decide)
      have p45 : vs 45 = _ := hp 45 (by decide) (by decide)
      have p46 : vs 46 = _ := hp 46 (by decide) (by decide)
      have p47 : vs 47 = _ := hp 47 (by decide) (by decide)
      have p48 : vs 48 = _ := hp 48 (by decide) (by decide)
      have p49 : vs 49 = _ := hp 49 (by decide) (by decide)
      have p50 : vs 50 = _ := hp 50 (by decide) (by decide)
      have p51 : vs 51 = _ := hp 51 (by decide) (by decide)
      have p52 : vs 52 = _ := hp 52 (by decide) (by decide)
      have p53 : vs 53 = _ := hp 53 (by decide) (by decide)
      have p54 : vs 54 = _ := hp 54 (by decide) (by decide)
      have p55 : vs 55 = _ := hp 55 (by decide) (by decide)
      have p56 : vs 56 = _ := hp 56 (by decide) (by decide)
      have p57 : vs 57 = _ := hp 57 (by decide) (by decide)
      have p58 : vs 58 = _ := hp 58 (by decide) (by decide)
      have p59 : vs 59 = _ := hp 59 (by decide) (by decide)
      have p60 : vs 60 = _ := hp 60 (by decide) (by decide)
      clear hp hl
      simp only [putAll_mk, setAll, List.setIfInBounds_toArray, List.set_cons_succ, List.set_cons_zero, p0, p1, p2, p3, p4, p5, p6, p7, p8, p9, p10, p11, p12, p13, p14, p15, p16, p17, p18, p19, p20, p21, p22, p23, p24, p25, p26, p27, p28, p29, p30, p31, p32, p33, p34, p35, p36, p37, p38, p39, p40, p41, p42, p43, p44, p45, p46, p47, p48, p49, p50, p51, p52, p53, p54, p55, p56, p57, p58, p59, p60]
      have HS := Lib.hid hS
      clear hS hR hS0
      go_wp2
      go_ret
      exact ⟨rfl, below2 HB0.out HS.out⟩
/-! ### the law's argument -/
def goodP (p : Pkt) : Prop := (-9223372036854775808 ≤ p.a ∧ p.a ≤ 9223372036854775807) ∧ (-9223372036854775808 ≤ p.b ∧ p.b ≤ 9223372036854775807) ∧ p.s.size ≤ 140737488351232
set_option maxRecDepth 100000 in
theorem opens_pkt (W : World) : Opens Try.prog W PT encP goodP :=
  Opens.as (opens_struct (w := W) Try.underlying29 (by kernel_rfl) (opens_fc (off' := 1) rfl (by kernel_rfl) (opens_int Try.underlying3) (opens_fc (off' := 2) rfl (by kernel_rfl) (opens_int Try.underlying3) (opens_fc (off' := 3) rfl (by kernel_rfl) (opens_string Try.underlying9) (opens_fc (off' := 4) rfl (by kernel_rfl) (opens_bool Try.underlying4) (opens_f0 4))))))
    encP goodP (fun x => ⟨x.1, x.2.1, x.2.2.1, x.2.2.2.1⟩) (fun _ => rfl) (fun _ h => ⟨i64_range h.1, i64_range h.2.1, h.2.2.1⟩)
structure OpN where
  k : Int
  a : Int
  b : Int
  L : Sl Pkt
def encN (o : OpN) : List Value := [.int .i64 o.k, .int .i64 o.a, .int .i64 o.b, .slice o.L.A o.L.n o.L.c]
def goodN (w : World) (o : OpN) : Prop := SlOk w 4 40 encP goodP o.L
set_option maxRecDepth 100000 in
theorem opens_opn (W : World) : Opens Try.prog W 39 encN (goodN W) :=
  Opens.as (opens_struct (w := W) Try.underlying39 (by kernel_rfl) (opens_fc (off' := 1) rfl (by kernel_rfl) (opens_int Try.underlying3) (opens_fc (off' := 2) rfl (by kernel_rfl) (opens_int Try.underlying3) (opens_fc (off' := 3) rfl (by kernel_rfl) (opens_int Try.underlying3)
      (opens_fc (off' := 4) rfl (by kernel_rfl) (opens_slice (sz := 4) (by_ := 40) (enc := encP) (good := goodP) Try.underlying22 (by kernel_rfl) (by omega) (by kernel_rfl) (opens_pkt W)) (opens_f0 4))))))
    encN (goodN W) (fun x => ⟨x.1, x.2.1, x.2.2.1, x.2.2.2.1⟩) (fun _ => rfl) (fun _ h => h.2.2.2.1)
theorem none_row (w : World) (x : OpN) (h : goodN w x) : Calls Try.prog 6 #[.agg (encN x).toArray] w fun e w' => e = .returned (.bool true) ∧ Below w.heap.size w w' :=
  none_walk w x.k x.a x.b x.L.A x.L.n x.L.c x.L.xs (rdE_of h)
end Go.Proofs.Ytbdcgfdchkbcnaa.Ne

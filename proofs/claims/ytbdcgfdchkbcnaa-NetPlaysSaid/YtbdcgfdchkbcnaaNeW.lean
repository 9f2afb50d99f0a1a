/- net: the document's Spoil. -/
import Derived.Test.YtbdcgfdchkbcnaaNeU
import Derived.Test.YtbdcgfdchkbcnaaNeR
namespace Go.Proofs.Ytbdcgfdchkbcnaa.Ne
open Go.RowKit Go.Proofs.Ytbdcgfdchkbcnaa.L Go.Proofs.Ytbdcgfdchkbcnaa.O Go.Proofs.Ytbdcgfdchkbcnaa.R Go.Proofs.Ytbdcgfdchkbcnaa.A Go.Proofs.Ytbdcgfdchkbcnaa.S Go.Proofs.Ytbdcgfdchkbcnaa.T Go.Proofs.Ytbdcgfdchkbcnaa.C Go.Proofs.Ytbdcgfdchkbcnaa.G Go.Proofs.Ytbdcgfdchkbcnaa.E
set_option linter.unusedVariables false
set_option linter.unusedSimpArgs false

theorem Dd.keep {S : List Nat} {W W' : World} {d nodes : Nat} {vL vC : Value} {Ls : List Pkt} {cs : List (Int × Int)} (h : Dd W d nodes vL Ls vC cs) (hk : Keep S W W') (hd : d ∉ S) (hl : ∀ k, vL.ownBlock = some k → k ∉ S) (hc : ∀ k, vC.ownBlock = some k → k ∉ S) : Dd W' d nodes vL Ls vC cs :=
  ⟨keep_block hk h.blk hd, own_keep h.own hk hl, own_keep h.cut hk hc⟩
theorem spB_cut (s : ByteArray) (k y : Nat) (hk : k < s.size) : s.extract 0 k ++ ⟨#[UInt8.ofNat ((s.data.toList.getD k 0).toNat ^^^ y)]⟩ ++ s.extract (k + 1) s.size = spB s k y := by
  have hkl : k < s.data.toList.length := by simpa using hk
  apply ByteArray.ext
  apply Array.toList_inj.1
  simp only [spB, ByteArray.data_append, ByteArray.data_extract, Array.toList_append, Array.toList_extract, List.extract_eq_take_drop]
  rw [List.set_eq_take_append_cons_drop, if_pos hkl]
  have : s.size - (k + 1) = (s.data.toList.drop (k + 1)).length := by rw [List.length_drop]; simp
  rw [this, List.take_length]
  simp
theorem dspoil_no (d nodes : Nat) (vL vC : Value) (Ls : List Pkt) (cs : List (Int × Int)) (i x y : Int) (w : World) (h : Dd w d nodes vL Ls vC cs) (hi : ¬ (0 ≤ i ∧ i < Ls.length)) :
    Calls Try.prog 33 #[.pointer (some ⟨d, 0, none⟩), .int .i64 i, .int .i64 x, .int .u8 y] w fun e w' => e = .returned (.int .i64 8) ∧ w = w' := by
  obtain ⟨A, c, hv, -, -, -⟩ := dd_whole h
  have hc := h.cell.2.1
  rw [hv] at hc
  obtain ⟨k, hk⟩ : ∃ k, Ls.length = k := ⟨_, rfl⟩
  rw [hk] at hc hi
  clear h hv hk
  by_cases h0 : i < 0
  · have hd0 : decide (i < 0) = true := by simpa using h0
    go_enter Try.func33, Try.ntmps33
    go_wp2
    go_ret
    exact ⟨rfl, rfl⟩
  · have hd0 : decide (i < 0) = false := by simpa using h0
    have hd : decide ((k : Int) ≤ i) = true := by simp; omega
    go_enter Try.func33, Try.ntmps33
    go_wp2
    go_ret
    exact ⟨rfl, rfl⟩
set_option maxHeartbeats 8000000 in
set_option maxRecDepth 100000 in
theorem dspoil_bad (d nodes : Nat) (vL vC : Value) (Ls : List Pkt) (cs : List (Int × Int)) (ix : Nat) (x y : Int) (w : World) (h : Dd w d nodes vL Ls vC cs) (hi : ix < Ls.length) (hf : Ls.length ≤ 256) (hbad : Ls[ix].q = false → x < 0 ∨ (Ls[ix].s.size : Int) ≤ x ∨ y = 0) :
    Calls Try.prog 33 #[.pointer (some ⟨d, 0, none⟩), .int .i64 ix, .int .i64 x, .int .u8 y] w fun e w' => e = .returned (.int .i64 (if Ls[ix].q then 9 else 1)) ∧ Below w.heap.size w w' := by
  obtain ⟨⟨p1, p2, p3, p4⟩, hp⟩ : ∃ p : Pkt, Ls[ix] = p := ⟨_, rfl⟩
  rw [hp] at hbad ⊢
  dsimp only at hbad ⊢
  obtain ⟨A, c, hv, -, -, hRD⟩ := dd_whole h
  obtain ⟨ab, ao, hA, e0, e1, e2, e3⟩ := pkt_at (hRD w (Below.refl _ _)) ix hi hi _ hp
  have hc := h.cell.2.1
  rw [hv] at hc
  subst hA
  dsimp only at e0 e1 e2 e3
  obtain ⟨k, hk⟩ : ∃ k, Ls.length = k := ⟨_, rfl⟩
  rw [hk] at hc hi hf
  have hd0 : decide ((k : Int) ≤ (ix : Int)) = false := by simp; omega
  have HB := Lib.hid (below_alloc w (.cells #[.int .i64 p1, .int .i64 p2, .string p3, .bool p4] DPT))
  clear h hv hk hRD hp
  cases p4 with
  | true =>
    clear hbad
    go_enter Try.func33, Try.ntmps33
    go_wp2
    go_ret
    exact ⟨rfl, HB.out⟩
  | false =>
    have hbad := hbad rfl
    by_cases h1 : x < 0
    · have hd1 : decide (x < 0) = true := by simpa using h1
      clear hbad h1
      go_enter Try.func33, Try.ntmps33
      go_wp2
      go_ret
      exact ⟨rfl, HB.out⟩
    · have hd1 : decide (x < 0) = false := by simpa using h1
      by_cases h2 : (p3.size : Int) ≤ x
      · have hd2 : decide ((p3.size : Int) ≤ x) = true := by simpa using h2
        clear hbad h1 h2
        go_enter Try.func33, Try.ntmps33
        go_wp2
        go_ret
        exact ⟨rfl, HB.out⟩
      · have hd2 : decide ((p3.size : Int) ≤ x) = false := by simpa using h2
        obtain rfl : y = 0 := by omega
        clear hbad h1 h2
        go_enter Try.func33, Try.ntmps33
        go_wp2
        go_ret
        exact ⟨rfl, HB.out⟩
set_option maxHeartbeats 16000000 in
set_option maxRecDepth 100000 in
theorem dspoil_ok (d nodes : Nat) (VV vC : Value) (Ls : List Pkt) (cs : List (Int × Int)) (ix k y : Nat) (w : World) (h : Dd w d nodes VV Ls vC cs) (hi : ix < Ls.length) (hf : Ls.length ≤ 256) (hq : Ls[ix].q = false) (hk : k < Ls[ix].s.size) (hs9 : Ls[ix].s.size ≤ 140737488351232) (hy0 : 0 < y) (hy : y < 256) :
    Calls Try.prog 33 #[.pointer (some ⟨d, 0, none⟩), .int .i64 ix, .int .i64 k, .int .u8 y] w fun e w' => e = .returned (.int .i64 0) ∧ GD d nodes VV vC (Ls.set ix ⟨Ls[ix].a, Ls[ix].b, spB Ls[ix].s k y, true⟩) cs w w' := by
  obtain ⟨⟨px, py, p3, pq⟩, hp⟩ : ∃ p : Pkt, Hid (Ls[ix] = p) := ⟨_, Lib.hid rfl⟩
  rw [hp.out] at hq hk hs9 ⊢
  dsimp only at hq hk hs9 ⊢
  subst hq
  have hcutB := spB_cut p3 k y hk
  obtain ⟨s2, hs2⟩ : ∃ s2, spB p3 k y = s2 := ⟨_, rfl⟩
  rw [hs2] at hcutB ⊢
  have hxz0 := bits_xor8 (p3.data.toList.getD k 0).toNat y (by have := (p3.data.toList.getD k 0).toNat_lt; omega) (by omega)
  obtain ⟨xz, hxz1⟩ : ∃ xz, (p3.data.toList.getD k 0).toNat = xz := ⟨_, rfl⟩
  have HXZ : Hid (∀ h : k < p3.size, (p3[k]'h).toNat = xz) := Lib.hid fun h => by
    have hkl : k < p3.data.toList.length := by simpa using hk
    rw [← hxz1, List.getD_eq_getElem?_getD, List.getElem?_eq_getElem hkl]
    rfl
  rw [hxz1] at hxz0 hcutB
  obtain ⟨z, hz⟩ : ∃ z, xz ^^^ y = z := ⟨_, rfl⟩
  have hz8 : z < 256 := by rw [← hz, ← hxz1]; exact Nat.xor_lt_two_pow (n := 8) (by have := (p3.data.toList.getD k 0).toNat_lt; omega) (by omega)
  rw [hz] at hxz0 hcutB
  have hxz : Hid (bits .xor .u8 (xz : Int) (y : Int) = (z : Int)) := Lib.hid hxz0
  obtain ⟨sz, hsz⟩ : ∃ sz : ByteArray, ⟨#[UInt8.ofNat z]⟩ = sz := ⟨_, rfl⟩
  rw [hsz] at hcutB
  have HCV : Hid (∀ (W : World) (j : Nat), W.heap[j]? = some (.cells #[.int .u8 (z : Int)] 5 (0, 0)) → (convert 71 9 (.slice (some ⟨j, 0, none⟩) 1 1)).run Try.prog W = .ok (.string sz) W) := Lib.hid fun W j hW => by
    have h := run_convert_bytes_back (P := Try.prog) W 71 9 5 ⟨j, 0, none⟩ 1 [UInt8.ofNat z] (by kernel_rfl) (by kernel_rfl) (by kernel_rfl) (fun t ht => by
      obtain rfl : t = 0 := by simpa using ht
      have hadd : (⟨j, 0, none⟩ : Addr).add 0 = ⟨j, 0, none⟩ := by unfold Addr.add; split <;> simp_all
      rw [hadd, cell_of_row _ _ _ _ _ _ hW]
      simp [UInt8.toNat_ofNat']
      omega)
    rw [← hsz]
    exact h
  have hszs : sz.size = 1 := by rw [← hsz]; rfl
  obtain ⟨sa, hsa⟩ : ∃ sa, Hid (p3.extract 0 k = sa) := ⟨_, Lib.hid rfl⟩
  obtain ⟨sb, hsb⟩ : ∃ sb, Hid (p3.extract (k + 1) p3.size = sb) := ⟨_, Lib.hid rfl⟩
  rw [hsa.out, hsb.out] at hcutB
  have hsas : sa.size ≤ 140737488351232 := by rw [← hsa.out, ByteArray.size_extract]; omega
  have hsbs : sb.size ≤ 140737488351232 := by rw [← hsb.out, ByteArray.size_extract]; omega
  have HOV : Hid (¬ (9223372036854775807 < sa.size + sz.size) ∧ ¬ (9223372036854775807 < sa.size + sz.size + sb.size)) := Lib.hid ⟨by omega, by omega⟩
  have HS2 := Lib.hid hcutB
  obtain ⟨j1, hj1⟩ : ∃ j1, k + 1 = j1 := ⟨_, rfl⟩
  rw [hj1] at hsb
  have hwr : Hid (IntKind.i64.wrap ((k : Int) + 1) = (j1 : Int)) := Lib.hid (by rw [IntKind.wrap_i64]; omega)
  have HK : Hid (k < p3.size ∧ j1 ≤ p3.size ∧ k ≤ p3.size) := Lib.hid (by omega)
  -- the packet's copy
  obtain ⟨xb, hxb⟩ : ∃ xb, Hid (w.heap.size = xb) := ⟨_, Lib.hid rfl⟩
  obtain ⟨wp, hwp⟩ : ∃ wp, Hid (w.alloc (.cells #[.int .i64 px, .int .i64 py, .string p3, .bool false] DPT) = wp) := ⟨_, Lib.hid rfl⟩
  have hb0 : Below w.heap.size w wp := by rw [← hwp.out]; exact below_alloc _ _
  have hxs : xb < wp.heap.size := by rw [← hxb.out, ← hwp.out, World.size_alloc]; exact Nat.lt_succ_self _
  have hblp : wp.heap[xb]? = some (.cells #[.int .i64 px, .int .i64 py, .string p3, .bool false] DPT (0, 0)) := by rw [← hwp.out, ← hxb.out]; exact heap_alloc_new _ _
  have HPB : Hid (∀ W, Below wp.heap.size wp W → W.heap[xb]? = some (.cells #[.int .i64 px, .int .i64 py, .string p3, .bool false] DPT (0, 0))) := Lib.hid fun W hb => keep_block (.of_below (S := []) hb) hblp (by simp)
  have HPX : Hid (∀ W, Below wp.heap.size wp W → W.cell? ⟨xb, 0, none⟩ = some (.int .i64 px) ∧ W.cell? ⟨xb, 1, none⟩ = some (.int .i64 py) ∧ W.cell? ⟨xb, 2, none⟩ = some (.string p3) ∧ W.cell? ⟨xb, 3, none⟩ = some (.bool false)) := Lib.hid fun W hb => dk_cells (HPB.out W hb)
  have hdl := h.lt
  have HGO : Hid (∀ W8 w1, Lo wp.heap.size xb wp.drew W8 → W8.setCell ⟨xb, 3, none⟩ (.bool true) = w1 → Keep [xb] wp w1 ∧ Dd w1 d nodes VV Ls vC cs ∧ Below w.heap.size w w1) := Lib.hid fun W8 w1 hl hs => by
    have k1 : Keep [xb] wp.drew W8 := hl.keep (Nat.le_refl _)
    have k2 : Keep [xb] W8 w1 := by rw [← hs]; exact (Keep.refl _ _).setCell (p := ⟨xb, 3, none⟩) (.inl (by simp)) _
    have k3 : Keep [xb] wp w1 := ((Keep.of_below (below_drewN 1 wp)).trans k1).trans k2
    have hx := hxb.out
    refine ⟨k3, (h.below hb0).keep k3 (by simp; omega) (fun j hj => by have := (own_lt h.own j hj).2; simp; omega) (fun j hj => by have := (own_lt h.cut j hj).2; simp; omega), hb0.trans (k3.below hb0.size fun x hx' => by simp at hx'; omega)⟩
  obtain ⟨A, cL0, hv, -, -, hRD⟩ := dd_whole h
  obtain ⟨ab, ao, hA, e0, e1, e2, e3⟩ := pkt_at (hRD w (Below.refl _ _)) ix hi hi _ hp.out
  have hcell0 := h.cell.2.1
  rw [hv] at hcell0
  subst hA
  dsimp only at e0 e1 e2 e3
  obtain ⟨nL, hn⟩ : ∃ nL, Hid (Ls.length = nL) := ⟨_, Lib.hid rfl⟩
  obtain ⟨jx, hj⟩ : ∃ jx, Hid (ix + 1 = jx) := ⟨_, Lib.hid rfl⟩
  have HNL := hn
  have HJ := hj
  have HIL := Lib.hid hi
  rw [hn.out] at hi hf hcell0
  have HIX := Lib.hid hi
  have hwrI : Hid (IntKind.i64.wrap ((ix : Int) + 1) = (jx : Int)) := Lib.hid (by have := hj.out; rw [IntKind.wrap_i64]; omega)
  obtain ⟨FA, HFA⟩ : ∃ FA, Hid ((Ls.take ix).flatMap encP = FA) := ⟨_, Lib.hid rfl⟩
  obtain ⟨FB, HFB⟩ : ∃ FB, Hid ((Ls.drop jx).flatMap encP = FB) := ⟨_, Lib.hid rfl⟩
  have hFA : Hid (FA.length = ix * 4) := Lib.hid (by rw [← HFA.out, flat_len encP_len, List.length_take, hn.out]; congr 1; omega)
  have hFB : Hid (FB.length = (nL - jx) * 4) := Lib.hid (by rw [← HFB.out, flat_len encP_len, List.length_drop, hn.out])
  have hOA : Hid (∀ u ∈ FA, u.oneCell' = true) := Lib.hid (by rw [← HFA.out]; exact one_pkt)
  have hOB : Hid (∀ u ∈ FB, u.oneCell' = true) := Lib.hid (by rw [← HFB.out]; exact one_pkt)
  obtain ⟨NW, hNW⟩ : ∃ NW, ([⟨px, py, s2, true⟩] : List Pkt).flatMap encP = NW := ⟨_, rfl⟩
  have HNW : Hid (NW.length = 1 * 4 ∧ NW = [.int .i64 px, .int .i64 py, .string s2, .bool true]) := Lib.hid (by rw [← hNW]; exact ⟨rfl, rfl⟩)
  obtain ⟨L1, hL1⟩ : ∃ L1, Ls.set ix ⟨px, py, s2, true⟩ = L1 := ⟨_, rfl⟩
  have HE1 : Hid (ix + 1 + (nL - jx) = L1.length ∧ FA ++ NW ++ FB = L1.flatMap encP) := Lib.hid (by
    have hjo := hj.out
    have hno := hn.out
    refine ⟨by rw [← hL1, List.length_set]; omega, ?_⟩
    rw [← hL1, List.set_eq_take_append_cons_drop, if_pos (by omega), hjo, List.flatMap_append, List.flatMap_cons, HFA.out, HFB.out, ← hNW]
    simp)
  rw [hL1]
  have hn9 : Hid (nL ≤ 256) := Lib.hid hf
  have hd0 : decide ((nL : Int) ≤ (ix : Int)) = false := by simp; omega
  have hd1 : decide ((p3.size : Int) ≤ (k : Int)) = false := by simp; omega
  have hd2 : ((y : Int) == 0) = false := by simp; omega
  have hd3 : decide ((y : Int) = 0) = false := by simp; omega
  have hyz : ¬ y = 0 := by omega
  have hpxw := HPX.out wp (Below.refl _ _)
  obtain ⟨f0, f1, f2, f3⟩ := hpxw
  clear h hv hRD hb0 hxs hblp hdl hL1 hNW hj1 hsas hsbs hszs hcutB hsz hz hxz0 hxz1 hs2 hs9 hz8 hj hn
  go_enter Try.func33, Try.ntmps33
  go_wp2_with (rw [hwp.out, hxb.out])
  clear hcell0 e0 e1 e2 e3 f0 f1 f2 f3 hd0 hd1 hd2 hd3 hyz hi hf hk hy0 hy
  refine wp_region_last (fun W => Below wp.heap.size wp W) (Lo wp.heap.size xb) (fun k u v => ((k = 20) → (Lo wp.heap.size xb) u v) ∧ (¬ (k = 20) → (fun u v => Below u.heap.size u v ∧ Below wp.heap.size u v) u v)) (fun a i => match i with
      | 0 => (fun v _ => v = .pointer (some ⟨xb, 2, none⟩))
      | 1 => (fun v _ => v = .string p3)
      | 2 => (fun v _ => v = .int .i64 (k : Int))
      | 3 => (fun v _ => v = .string sa)
      | 4 => (fun v _ => v = .pointer (some ⟨xb, 2, none⟩))
      | 5 => (fun v _ => v = .string p3)
      | 6 => (fun v _ => v = .int .i64 (k : Int))
      | 7 => (fun v _ => v = .int .u8 (xz : Int))
      | 8 => (fun v _ => v = .int .u8 (y : Int))
      | 9 => (fun v _ => v = .int .u8 (z : Int))
      | 10 => (fun v W => ∃ j, v = .slice (some ⟨j, 0, none⟩) 1 1 ∧ j < W.heap.size ∧ W.heap[j]? = some (.cells #[.int .u8 (z : Int)] 5 (0, 0)))
      | 11 => (fun v _ => v = .string sz)
      | 12 => (fun v _ => v = .string (sa ++ sz))
      | 13 => (fun v _ => v = .pointer (some ⟨xb, 2, none⟩))
      | 14 => (fun v _ => v = .string p3)
      | 15 => (fun v _ => v = .int .i64 (k : Int))
      | 16 => (fun v _ => v = .int .i64 (j1 : Int))
      | 17 => (fun v _ => v = .string sb)
      | 18 => (fun v _ => v = .string (sa ++ sz ++ sb))
      | 19 => (fun v _ => v = .pointer (some ⟨xb, 2, none⟩))
      | 20 => (fun v W => W.heap[xb]? = some (.cells #[.int .i64 px, .int .i64 py, .string (sa ++ sz ++ sb), .bool false] DPT (0, 0)))
      | _ => (fun _ _ => True)) #[0, 1, 0, 7, 0, 16, 0, 112, 0, 496, 1008, 2032, 4095, 0, 8192, 0, 32768, 122880, 262143, 524287, 1048575] #[0, 1, 0, 6, 0, 16, 0, 96, 0, 384, 512, 1024, 2056, 0, 8192, 0, 32768, 81920, 135168, 0, 786432] 2096127 20 (by kernel_rfl) 21 rfl (by kernel_rfl) (fun m hm => by subst hm; kernel_rfl) (by kernel_rfl) (fun w => Lo.refl _ _ _) (fun u v w h1 h2 => h1.trans h2) ?_ ?_ (below_drewN 1 wp) ?_ ?_
  · intro k u v hk hr
    by_cases hs : k = 20
    · have h := hr.1 hs; exact h
    · have h := hr.2 hs; exact Lo.of h.2
  · intro i hi hiz
    rcases (by omega : i = 0 ∨ i = 1 ∨ i = 2 ∨ i = 3 ∨ i = 4 ∨ i = 5 ∨ i = 6 ∨ i = 7 ∨ i = 8 ∨ i = 9 ∨ i = 10 ∨ i = 11 ∨ i = 12 ∨ i = 13 ∨ i = 14 ∨ i = 15 ∨ i = 16 ∨ i = 17 ∨ i = 18 ∨ i = 19 ∨ i = 20) with rfl | rfl | rfl | rfl | rfl | rfl | rfl | rfl | rfl | rfl | rfl | rfl | rfl | rfl | rfl | rfl | rfl | rfl | rfl | rfl | rfl
    · intro k hk q hq hqt v w w' h hr
      by_cases hs : k = 20
      · have hr0 := hr.1 hs
        rcases hs with rfl
        · exact (fun (h : _) (hr : _) => by exact h) h hr0
      · have hr := hr.2 hs
        exact h
    · intro k hk q hq hqt v w w' h hr
      by_cases hs : k = 20
      · have hr0 := hr.1 hs
        rcases hs with rfl
        · exact (fun (h : _) (hr : _) => by exact h) h hr0
      · have hr := hr.2 hs
        exact h
    · intro k hk q hq hqt v w w' h hr
      by_cases hs : k = 20
      · have hr0 := hr.1 hs
        rcases hs with rfl
        · exact (fun (h : _) (hr : _) => by exact h) h hr0
      · have hr := hr.2 hs
        exact h
    · intro k hk q hq hqt v w w' h hr
      by_cases hs : k = 20
      · have hr0 := hr.1 hs
        rcases hs with rfl
        · exact (fun (h : _) (hr : _) => by exact h) h hr0
      · have hr := hr.2 hs
        exact h
    · intro k hk q hq hqt v w w' h hr
      by_cases hs : k = 20
      · have hr0 := hr.1 hs
        rcases hs with rfl
        · exact (fun (h : _) (hr : _) => by exact h) h hr0
      · have hr := hr.2 hs
        exact h
    · intro k hk q hq hqt v w w' h hr
      by_cases hs : k = 20
      · have hr0 := hr.1 hs
        rcases hs with rfl
        · exact (fun (h : _) (hr : _) => by exact h) h hr0
      · have hr := hr.2 hs
        exact h
    · intro k hk q hq hqt v w w' h hr
      by_cases hs : k = 20
      · have hr0 := hr.1 hs
        rcases hs with rfl
        · exact (fun (h : _) (hr : _) => by exact h) h hr0
      · have hr := hr.2 hs
        exact h
    · intro k hk q hq hqt v w w' h hr
      by_cases hs : k = 20
      · have hr0 := hr.1 hs
        rcases hs with rfl
        · exact (fun (h : _) (hr : _) => by exact h) h hr0
      · have hr := hr.2 hs
        exact h
    · intro k hk q hq hqt v w w' h hr
      by_cases hs : k = 20
      · have hr0 := hr.1 hs
        rcases hs with rfl
        · exact (fun (h : _) (hr : _) => by exact h) h hr0
      · have hr := hr.2 hs
        exact h
    · intro k hk q hq hqt v w w' h hr
      by_cases hs : k = 20
      · have hr0 := hr.1 hs
        rcases hs with rfl
        · exact (fun (h : _) (hr : _) => by exact h) h hr0
      · have hr := hr.2 hs
        exact h
    · intro k hk q hq hqt v w w' h hr
      by_cases hs : k = 20
      · have hr0 := hr.1 hs
        rcases hs with rfl
        · exact absurd (hq.trans hqt) (ne_true_of_eq_false (by kernel_rfl))
      · have hr := hr.2 hs
        obtain ⟨j, h1, h2, h3⟩ := h; exact ⟨j, h1, Nat.lt_of_lt_of_le h2 hr.1.size, (hr.1.block j h2).trans h3⟩
    · intro k hk q hq hqt v w w' h hr
      by_cases hs : k = 20
      · have hr0 := hr.1 hs
        rcases hs with rfl
        · exact (fun (h : _) (hr : _) => by exact h) h hr0
      · have hr := hr.2 hs
        exact h
    · intro k hk q hq hqt v w w' h hr
      by_cases hs : k = 20
      · have hr0 := hr.1 hs
        rcases hs with rfl
        · exact (fun (h : _) (hr : _) => by exact h) h hr0
      · have hr := hr.2 hs
        exact h
    · intro k hk q hq hqt v w w' h hr
      by_cases hs : k = 20
      · have hr0 := hr.1 hs
        rcases hs with rfl
        · exact (fun (h : _) (hr : _) => by exact h) h hr0
      · have hr := hr.2 hs
        exact h
    · intro k hk q hq hqt v w w' h hr
      by_cases hs : k = 20
      · have hr0 := hr.1 hs
        rcases hs with rfl
        · exact (fun (h : _) (hr : _) => by exact h) h hr0
      · have hr := hr.2 hs
        exact h
    · intro k hk q hq hqt v w w' h hr
      by_cases hs : k = 20
      · have hr0 := hr.1 hs
        rcases hs with rfl
        · exact (fun (h : _) (hr : _) => by exact h) h hr0
      · have hr := hr.2 hs
        exact h
    · intro k hk q hq hqt v w w' h hr
      by_cases hs : k = 20
      · have hr0 := hr.1 hs
        rcases hs with rfl
        · exact (fun (h : _) (hr : _) => by exact h) h hr0
      · have hr := hr.2 hs
        exact h
    · intro k hk q hq hqt v w w' h hr
      by_cases hs : k = 20
      · have hr0 := hr.1 hs
        rcases hs with rfl
        · exact (fun (h : _) (hr : _) => by exact h) h hr0
      · have hr := hr.2 hs
        exact h
    · intro k hk q hq hqt v w w' h hr
      by_cases hs : k = 20
      · have hr0 := hr.1 hs
        rcases hs with rfl
        · exact (fun (h : _) (hr : _) => by exact h) h hr0
      · have hr := hr.2 hs
        exact h
    · intro k hk q hq hqt v w w' h hr
      by_cases hs : k = 20
      · have hr0 := hr.1 hs
        rcases hs with rfl
        · exact (fun (h : _) (hr : _) => by exact h) h hr0
      · have hr := hr.2 hs
        exact h
    · exact absurd rfl hiz
  · intro i hi
    rcases (by omega : i = 0 ∨ i = 1 ∨ i = 2 ∨ i = 3 ∨ i = 4 ∨ i = 5 ∨ i = 6 ∨ i = 7 ∨ i = 8 ∨ i = 9 ∨ i = 10 ∨ i = 11 ∨ i = 12 ∨ i = 13 ∨ i = 14 ∨ i = 15 ∨ i = 16 ∨ i = 17 ∨ i = 18 ∨ i = 19 ∨ i = 20) with rfl | rfl | rfl | rfl | rfl | rfl | rfl | rfl | rfl | rfl | rfl | rfl | rfl | rfl | rfl | rfl | rfl | rfl | rfl | rfl | rfl
    · -- 0: Op.fieldAddr 49 (Operand.tmp 9) 2
      intro l hl vs W hS hR hp
      obtain rfl : l = [] := hl.symm.trans (by kernel_rfl)
      clear hp hl
      refine opgoal (_) (some 43) rfl rfl fun K hK => ?_
      refine Runs.mk ?_
      simp only [putAll]
      go_simp
      refine hK _ _ ?_ (fun _ => hS) ⟨fun h => absurd h (by decide), fun _ => ((fun w => ⟨Below.refl _ _, Below.refl _ _⟩) W)⟩ _ rfl rfl
      first | rfl | go_simp | simp
    · -- 1: Op.load 9 (Operand.tmp 43)
      intro l hl vs W hS hR hp
      obtain rfl : l = [(0, 43)] := hl.symm.trans (by kernel_rfl)
      have p0 : vs 0 = _ := hp 0 (by decide) (by decide)
      clear hp hl
      refine opgoal (_) (some 44) rfl rfl fun K hK => ?_
      obtain ⟨f0, f1, f2, f3⟩ := HPX.out W hS
      refine Runs.mk ?_
      simp only [putAll]
      go_simp
      refine hK _ _ ?_ (fun _ => hS) ⟨fun h => absurd h (by decide), fun _ => ((fun w => ⟨Below.refl _ _, Below.refl _ _⟩) W)⟩ _ rfl rfl
      first | rfl | go_simp | simp
    · -- 2: Op.move (Operand.tmp 2)
      intro l hl vs W hS hR hp
      obtain rfl : l = [] := hl.symm.trans (by kernel_rfl)
      clear hp hl
      refine opgoal (_) (some 45) rfl rfl fun K hK => ?_
      refine Runs.mk ?_
      simp only [putAll]
      go_simp
      refine hK _ _ ?_ (fun _ => hS) ⟨fun h => absurd h (by decide), fun _ => ((fun w => ⟨Below.refl _ _, Below.refl _ _⟩) W)⟩ _ rfl rfl
      first | rfl | go_simp | simp
    · -- 3: Op.slice 9 (Operand.tmp 44) none (some (Operand.tmp 45)) none
      intro l hl vs W hS hR hp
      obtain rfl : l = [(0, 43), (1, 44), (2, 45)] := hl.symm.trans (by kernel_rfl)
      have p1 : vs 1 = _ := hp 1 (by decide) (by decide)
      have p2 : vs 2 = _ := hp 2 (by decide) (by decide)
      clear hp hl
      refine opgoal (_) (some 46) rfl rfl fun K hK => ?_
      have e := hsa.out
      have hk' := HK.out
      refine Runs.mk ?_
      simp only [putAll]
      go_simp
      refine hK _ _ ?_ (fun _ => hS) ⟨fun h => absurd h (by decide), fun _ => ((fun w => ⟨Below.refl _ _, Below.refl _ _⟩) W)⟩ _ rfl rfl
      first | rfl | go_simp | simp
    · -- 4: Op.fieldAddr 49 (Operand.tmp 9) 2
      intro l hl vs W hS hR hp
      obtain rfl : l = [] := hl.symm.trans (by kernel_rfl)
      clear hp hl
      refine opgoal (_) (some 47) rfl rfl fun K hK => ?_
      refine Runs.mk ?_
      simp only [putAll]
      go_simp
      refine hK _ _ ?_ (fun _ => hS) ⟨fun h => absurd h (by decide), fun _ => ((fun w => ⟨Below.refl _ _, Below.refl _ _⟩) W)⟩ _ rfl rfl
      first | rfl | go_simp | simp
    · -- 5: Op.load 9 (Operand.tmp 47)
      intro l hl vs W hS hR hp
      obtain rfl : l = [(4, 47)] := hl.symm.trans (by kernel_rfl)
      have p4 : vs 4 = _ := hp 4 (by decide) (by decide)
      clear hp hl
      refine opgoal (_) (some 48) rfl rfl fun K hK => ?_
      obtain ⟨f0, f1, f2, f3⟩ := HPX.out W hS
      refine Runs.mk ?_
      simp only [putAll]
      go_simp
      refine hK _ _ ?_ (fun _ => hS) ⟨fun h => absurd h (by decide), fun _ => ((fun w => ⟨Below.refl _ _, Below.refl _ _⟩) W)⟩ _ rfl rfl
      first | rfl | go_simp | simp
    · -- 6: Op.move (Operand.tmp 2)
      intro l hl vs W hS hR hp
      obtain rfl : l = [] := hl.symm.trans (by kernel_rfl)
      clear hp hl
      refine opgoal (_) (some 49) rfl rfl fun K hK => ?_
      refine Runs.mk ?_
      simp only [putAll]
      go_simp
      refine hK _ _ ?_ (fun _ => hS) ⟨fun h => absurd h (by decide), fun _ => ((fun w => ⟨Below.refl _ _, Below.refl _ _⟩) W)⟩ _ rfl rfl
      first | rfl | go_simp | simp
    · -- 7: Op.index 9 (Operand.tmp 48) (Operand.tmp 49)
      intro l hl vs W hS hR hp
      obtain rfl : l = [(4, 47), (5, 48), (6, 49)] := hl.symm.trans (by kernel_rfl)
      have p5 : vs 5 = _ := hp 5 (by decide) (by decide)
      have p6 : vs 6 = _ := hp 6 (by decide) (by decide)
      clear hp hl
      refine opgoal (_) (some 50) rfl rfl fun K hK => ?_
      have hidx := HXZ.out
      have hk' := HK.out
      refine Runs.mk ?_
      simp only [putAll]
      go_simp
      refine hK _ _ ?_ (fun _ => hS) ⟨fun h => absurd h (by decide), fun _ => ((fun w => ⟨Below.refl _ _, Below.refl _ _⟩) W)⟩ _ rfl rfl
      first | rfl | go_simp | simp
    · -- 8: Op.move (Operand.tmp 3)
      intro l hl vs W hS hR hp
      obtain rfl : l = [] := hl.symm.trans (by kernel_rfl)
      clear hp hl
      refine opgoal (_) (some 51) rfl rfl fun K hK => ?_
      refine Runs.mk ?_
      simp only [putAll]
      go_simp
      refine hK _ _ ?_ (fun _ => hS) ⟨fun h => absurd h (by decide), fun _ => ((fun w => ⟨Below.refl _ _, Below.refl _ _⟩) W)⟩ _ rfl rfl
      first | rfl | go_simp | simp
    · -- 9: Op.binOp BinOp.xor 5 (Operand.tmp 50) (Operand.tmp 51) 5
      intro l hl vs W hS hR hp
      obtain rfl : l = [(4, 47), (5, 48), (6, 49), (7, 50), (8, 51)] := hl.symm.trans (by kernel_rfl)
      have p7 : vs 7 = _ := hp 7 (by decide) (by decide)
      have p8 : vs 8 = _ := hp 8 (by decide) (by decide)
      clear hp hl
      refine opgoal (_) (some 52) rfl rfl fun K hK => ?_
      have hx := hxz.out
      refine Runs.mk ?_
      simp only [putAll]
      go_simp
      refine hK _ _ ?_ (fun _ => hS) ⟨fun h => absurd h (by decide), fun _ => ((fun w => ⟨Below.refl _ _, Below.refl _ _⟩) W)⟩ _ rfl rfl
      first | rfl | go_simp | simp
    · -- 10: Op.buildSlice 71 1 #[(0, Operand.tmp 52)]
      intro l hl vs W hS hR hp
      obtain rfl : l = [(4, 47), (5, 48), (6, 49), (7, 50), (8, 51), (9, 52)] := hl.symm.trans (by kernel_rfl)
      have p9 : vs 9 = _ := hp 9 (by decide) (by decide)
      clear hp hl
      refine opgoal (_) (some 53) rfl rfl fun K hK => ?_
      refine Runs.mk ?_
      simp only [putAll]
      go_simp
      have hb := below_alloc W (.cells #[.int .u8 (z : Int)] 5)
      exact hK _ _ ⟨W.heap.size, rfl, by simp, heap_alloc_new _ _⟩ (fun _ => below2 hS hb) ⟨fun h => absurd h (by decide), fun _ => ⟨hb, hb.mono hS.size⟩⟩ _ rfl rfl
    · -- 11: Op.convert 71 9 (Operand.tmp 53)
      intro l hl vs W hS hR hp
      obtain rfl : l = [(4, 47), (5, 48), (6, 49), (7, 50), (8, 51), (9, 52), (10, 53)] := hl.symm.trans (by kernel_rfl)
      have p10 : (fun v W => ∃ j, v = .slice (some ⟨j, 0, none⟩) 1 1 ∧ j < W.heap.size ∧ W.heap[j]? = some (.cells #[.int .u8 (z : Int)] 5 (0, 0))) (vs 10) W := hp 10 (by decide) (by decide)
      dsimp only at p10
      clear hp hl
      obtain ⟨j, q10, l10, b10⟩ := p10
      refine opgoal (_) (some 54) rfl rfl fun K hK => ?_
      have hcv := HCV.out W j b10
      refine Runs.mk ?_
      simp only [putAll]
      go_simp
      refine hK _ _ ?_ (fun _ => hS) ⟨fun h => absurd h (by decide), fun _ => ((fun w => ⟨Below.refl _ _, Below.refl _ _⟩) W)⟩ _ rfl rfl
      first | rfl | go_simp | simp
    · -- 12: Op.binOp BinOp.add 9 (Operand.tmp 46) (Operand.tmp 54) 9
      intro l hl vs W hS hR hp
      obtain rfl : l = [(0, 43), (1, 44), (2, 45), (3, 46), (4, 47), (5, 48), (6, 49), (7, 50), (8, 51), (9, 52), (10, 53), (11, 54)] := hl.symm.trans (by kernel_rfl)
      have p3 : vs 3 = _ := hp 3 (by decide) (by decide)
      have p11 : vs 11 = _ := hp 11 (by decide) (by decide)
      clear hp hl
      refine opgoal (_) (some 55) rfl rfl fun K hK => ?_
      have ho := HOV.out.1
      refine Runs.mk ?_
      simp only [putAll]
      go_simp
      refine hK _ _ ?_ (fun _ => hS) ⟨fun h => absurd h (by decide), fun _ => ((fun w => ⟨Below.refl _ _, Below.refl _ _⟩) W)⟩ _ rfl rfl
      first | rfl | go_simp | simp
    · -- 13: Op.fieldAddr 49 (Operand.tmp 9) 2
      intro l hl vs W hS hR hp
      obtain rfl : l = [] := hl.symm.trans (by kernel_rfl)
      clear hp hl
      refine opgoal (_) (some 56) rfl rfl fun K hK => ?_
      refine Runs.mk ?_
      simp only [putAll]
      go_simp
      refine hK _ _ ?_ (fun _ => hS) ⟨fun h => absurd h (by decide), fun _ => ((fun w => ⟨Below.refl _ _, Below.refl _ _⟩) W)⟩ _ rfl rfl
      first | rfl | go_simp | simp
    · -- 14: Op.load 9 (Operand.tmp 56)
      intro l hl vs W hS hR hp
      obtain rfl : l = [(13, 56)] := hl.symm.trans (by kernel_rfl)
      have p13 : vs 13 = _ := hp 13 (by decide) (by decide)
      clear hp hl
      refine opgoal (_) (some 57) rfl rfl fun K hK => ?_
      obtain ⟨f0, f1, f2, f3⟩ := HPX.out W hS
      refine Runs.mk ?_
      simp only [putAll]
      go_simp
      refine hK _ _ ?_ (fun _ => hS) ⟨fun h => absurd h (by decide), fun _ => ((fun w => ⟨Below.refl _ _, Below.refl _ _⟩) W)⟩ _ rfl rfl
      first | rfl | go_simp | simp
    · -- 15: Op.move (Operand.tmp 2)
      intro l hl vs W hS hR hp
      obtain rfl : l = [] := hl.symm.trans (by kernel_rfl)
      clear hp hl
      refine opgoal (_) (some 58) rfl rfl fun K hK => ?_
      refine Runs.mk ?_
      simp only [putAll]
      go_simp
      refine hK _ _ ?_ (fun _ => hS) ⟨fun h => absurd h (by decide), fun _ => ((fun w => ⟨Below.refl _ _, Below.refl _ _⟩) W)⟩ _ rfl rfl
      first | rfl | go_simp | simp
    · -- 16: Op.binOp BinOp.add 3 (Operand.tmp 58) (Operand.const (Value.int IntKind.i64 1)) 3
      intro l hl vs W hS hR hp
      obtain rfl : l = [(15, 58)] := hl.symm.trans (by kernel_rfl)
      have p15 : vs 15 = _ := hp 15 (by decide) (by decide)
      clear hp hl
      refine opgoal (_) (some 59) rfl rfl fun K hK => ?_
      have hwr' := hwr.out
      refine Runs.mk ?_
      simp only [putAll]
      go_simp
      refine hK _ _ ?_ (fun _ => hS) ⟨fun h => absurd h (by decide), fun _ => ((fun w => ⟨Below.refl _ _, Below.refl _ _⟩) W)⟩ _ rfl rfl
      first | rfl | go_simp | simp
    · -- 17: Op.slice 9 (Operand.tmp 57) (some (Operand.tmp 59)) none none
      intro l hl vs W hS hR hp
      obtain rfl : l = [(13, 56), (14, 57), (15, 58), (16, 59)] := hl.symm.trans (by kernel_rfl)
      have p14 : vs 14 = _ := hp 14 (by decide) (by decide)
      have p16 : vs 16 = _ := hp 16 (by decide) (by decide)
      clear hp hl
      refine opgoal (_) (some 60) rfl rfl fun K hK => ?_
      have e := hsb.out
      have hk' := HK.out
      refine Runs.mk ?_
      simp only [putAll]
      go_simp
      refine hK _ _ ?_ (fun _ => hS) ⟨fun h => absurd h (by decide), fun _ => ((fun w => ⟨Below.refl _ _, Below.refl _ _⟩) W)⟩ _ rfl rfl
      first | rfl | go_simp | simp
    · -- 18: Op.binOp BinOp.add 9 (Operand.tmp 55) (Operand.tmp 60) 9
      intro l hl vs W hS hR hp
      obtain rfl : l = [(0, 43), (1, 44), (2, 45), (3, 46), (4, 47), (5, 48), (6, 49), (7, 50), (8, 51), (9, 52), (10, 53), (11, 54), (12, 55), (13, 56), (14, 57), (15, 58), (16, 59), (17, 60)] := hl.symm.trans (by kernel_rfl)
      have p12 : vs 12 = _ := hp 12 (by decide) (by decide)
      have p17 : vs 17 = _ := hp 17 (by decide) (by decide)
      clear hp hl
      refine opgoal (_) (some 61) rfl rfl fun K hK => ?_
      have ho := HOV.out.2
      refine Runs.mk ?_
      simp only [putAll]
      go_simp
      refine hK _ _ ?_ (fun _ => hS) ⟨fun h => absurd h (by decide), fun _ => ((fun w => ⟨Below.refl _ _, Below.refl _ _⟩) W)⟩ _ rfl rfl
      first | rfl | go_simp | simp
    · -- 19: Op.fieldAddr 49 (Operand.tmp 9) 2
      intro l hl vs W hS hR hp
      obtain rfl : l = [(0, 43), (1, 44), (2, 45), (3, 46), (4, 47), (5, 48), (6, 49), (7, 50), (8, 51), (9, 52), (10, 53), (11, 54), (12, 55), (13, 56), (14, 57), (15, 58), (16, 59), (17, 60), (18, 61)] := hl.symm.trans (by kernel_rfl)
      clear hp hl
      refine opgoal (_) (some 62) rfl rfl fun K hK => ?_
      refine Runs.mk ?_
      simp only [putAll]
      go_simp
      refine hK _ _ ?_ (fun _ => hS) ⟨fun h => absurd h (by decide), fun _ => ((fun w => ⟨Below.refl _ _, Below.refl _ _⟩) W)⟩ _ rfl rfl
      first | rfl | go_simp | simp
    · -- 20: Op.store 9 (Operand.tmp 62) (Operand.tmp 61)
      intro l hl vs W hS hR hp
      obtain rfl : l = [(0, 43), (1, 44), (2, 45), (3, 46), (4, 47), (5, 48), (6, 49), (7, 50), (8, 51), (9, 52), (10, 53), (11, 54), (12, 55), (13, 56), (14, 57), (15, 58), (16, 59), (17, 60), (18, 61), (19, 62)] := hl.symm.trans (by kernel_rfl)
      have p18 : vs 18 = _ := hp 18 (by decide) (by decide)
      have p19 : vs 19 = _ := hp 19 (by decide) (by decide)
      clear hp hl
      refine opgoal (_) (none) rfl rfl fun K hK => ?_
      obtain ⟨f0, f1, f2, f3⟩ := HPX.out W hS
      have hbl := HPB.out W hS
      have hf1 : W.frozen? ⟨xb, 2, none⟩ = false := frozen_of_row W _ _ _ _ hbl
      refine Runs.mk ?_
      simp only [putAll]
      go_simp
      refine hK undef _ ?_ (fun h => absurd rfl h) ⟨fun _ => Lo.set _ _ _ _ _, fun h => absurd (by decide) h⟩ _ rfl rfl
      exact (Go.Proofs.Ytbdcgfdchkbcnaa.L.heap_setCell_at W xb 2 _ _ _ _ hbl).trans rfl
  · intro l hl vs W hR hp
    obtain rfl : l = [(0, 43), (1, 44), (2, 45), (3, 46), (4, 47), (5, 48), (6, 49), (7, 50), (8, 51), (9, 52), (10, 53), (11, 54), (12, 55), (13, 56), (14, 57), (15, 58), (16, 59), (17, 60), (18, 61), (19, 62)] := hl.symm.trans (by kernel_rfl)
    have p0 : vs 0 = _ := hp 0 (by decide) (by decide)
    have p1 : vs 1 = _ := hp 1 (by decide) (by decide)
    have p2 : vs 2 = _ := hp 2 (by decide) (by decide)
    have p3 : vs 3 = _ := hp 3 (by decide) (by decide)
    have p4 : vs 4 = _ := hp 4 (by decide) (by decide)
    have p5 : vs 5 = _ := hp 5 (by decide) (by decide)
    have p6 : vs 6 = _ := hp 6 (by decide) (by decide)
    have p7 : vs 7 = _ := hp 7 (by decide) (by decide)
    have p8 : vs 8 = _ := hp 8 (by decide) (by decide)
    have p9 : vs 9 = _ := hp 9 (by decide) (by decide)
    have p11 : vs 11 = _ := hp 11 (by decide) (by decide)
    have p12 : vs 12 = _ := hp 12 (by decide) (by decide)
    have p13 : vs 13 = _ := hp 13 (by decide) (by decide)
    have p14 : vs 14 = _ := hp 14 (by decide) (by decide)
    have p15 : vs 15 = _ := hp 15 (by decide) (by decide)
    have p16 : vs 16 = _ := hp 16 (by decide) (by decide)
    have p17 : vs 17 = _ := hp 17 (by decide) (by decide)
    have p18 : vs 18 = _ := hp 18 (by decide) (by decide)
    have p19 : vs 19 = _ := hp 19 (by decide) (by decide)
    have p20 : (fun v W => W.heap[xb]? = some (.cells #[.int .i64 px, .int .i64 py, .string (sa ++ sz ++ sb), .bool false] DPT (0, 0))) (vs 20) W := hp 20 (by decide) (by decide)
    dsimp only at p20
    clear hp hl
    simp only [putAll_mk, setAll, List.setIfInBounds_toArray, List.set_cons_succ, List.set_cons_zero, p0, p1, p2, p3, p4, p5, p6, p7, p8, p9, p11, p12, p13, p14, p15, p16, p17, p18, p19]
    have HE := Lib.hid p20
    have HR := Lib.hid hR
    clear p20 hR
    obtain ⟨W8, hW8⟩ : ∃ W8, W = W8 := ⟨_, rfl⟩
    rw [hW8] at HE HR ⊢
    clear hW8
    rw [HS2.out] at HE
    obtain ⟨f0, f1, f2, f3⟩ := dk_cells HE.out
    have hf3 : W8.frozen? ⟨xb, 3, none⟩ = false := frozen_of_row W8 _ _ _ _ HE.out
    obtain ⟨w1, hw1⟩ : ∃ w1, Hid (W8.setCell ⟨xb, 3, none⟩ (.bool true) = w1) := ⟨_, Lib.hid rfl⟩
    have hbl1 : w1.heap[xb]? = some (.cells #[.int .i64 px, .int .i64 py, .string s2, .bool true] DPT (0, 0)) := by rw [← hw1.out]; exact (Go.Proofs.Ytbdcgfdchkbcnaa.L.heap_setCell_at W8 xb 3 _ _ _ _ HE.out).trans rfl
    obtain ⟨hk1, hD1, hb1⟩ := HGO.out W8 w1 HR.out hw1.out
    have HPX1 : Hid (∀ W, Below w1.heap.size w1 W → W.cell? ⟨xb, 0, none⟩ = some (.int .i64 px) ∧ W.cell? ⟨xb, 1, none⟩ = some (.int .i64 py) ∧ W.cell? ⟨xb, 2, none⟩ = some (.string s2) ∧ W.cell? ⟨xb, 3, none⟩ = some (.bool true)) := Lib.hid fun W hb => dk_cells (keep_block (.of_below (S := []) hb) hbl1 (by simp))
    obtain ⟨g, cL, AJ, hv, hle, hAJ, hLA, hLB⟩ := dd_parts hD1 ix HIL.out
    rw [HJ.out] at hAJ hLB
    rw [HNL.out] at hv hle
    rw [HFA.out] at hLA
    rw [HFB.out] at hLB
    have hAJ := Lib.hid hAJ
    have hLA := Lib.hid hLA
    have hLB := Lib.hid hLB
    have HCL := Lib.hid hD1.cell.2.1
    have HD := Lib.hid hD1
    have hVV := Lib.hid hv
    have HFIN : Hid (∀ W, (∃ v', Dd W d nodes v' L1 vC cs ∧ ∀ k, v'.ownBlock = some k → w1.heap.size ≤ k) → Lo w1.heap.size d w1.drew W → GD d nodes VV vC L1 cs w W) := Lib.hid fun W h1 h2 => gd_of hb1 h1 h2
    have hix := HIX.out
    have hjx := HJ.out
    have hic : ix ≤ cL := by omega
    have hjc : jx ≤ cL := by omega
    have hjn : jx ≤ nL := by omega
    clear hk1 hD1 hb1 hv hle hbl1 hix hjx
    go_wp2_with (rw [hw1.out])
    refine wp_region_last (fun W => Below w1.heap.size w1 W) (Lo w1.heap.size d) (fun k u v => ((k = 11 ∨ k = 19 ∨ k = 22) → (Lo w1.heap.size d) u v) ∧ (¬ (k = 11 ∨ k = 19 ∨ k = 22) → (fun u v => Below u.heap.size u v ∧ Below w1.heap.size u v) u v)) (fun a i => match i with
        | 0 => (fun v _ => v = .pointer (some ⟨d, 0, none⟩))
        | 1 => (fun v W => ∃ A0, v = .slice A0 0 0 ∧ W.ownsRow w1.heap.size DPT 4 v 0 [])
        | 2 => (fun v _ => v = .pointer (some ⟨d, 0, none⟩))
        | 3 => (fun v _ => v = .pointer (some ⟨d, 0, none⟩))
        | 4 => (fun v _ => v = .pointer (some ⟨d, 1, none⟩))
        | 5 => (fun v _ => v = .slice (some ⟨g, 0, none⟩) nL cL)
        | 6 => (fun v _ => v = .int .i64 (ix : Int))
        | 7 => (fun v _ => v = .slice (some ⟨g, 0, none⟩) ix cL)
        | 8 => (fun v W => W.ownsRow w1.heap.size DPT 4 v (ix) (FA))
        | 9 => (fun v _ => v = .agg #[.int .i64 px, .int .i64 py, .string s2, .bool true])
        | 10 => (fun v W => ∃ j, v = .slice (some ⟨j, 0, none⟩) 1 1 ∧ j < W.heap.size ∧ W.heap[j]? = some (.cells #[.int .i64 px, .int .i64 py, .string s2, .bool true] DPT (0, 0)))
        | 11 => (fun v W => W.ownsRow w1.heap.size DPT 4 v (ix + 1) (FA ++ NW))
        | 12 => (fun v _ => v = .pointer (some ⟨d, 0, none⟩))
        | 13 => (fun v _ => v = .pointer (some ⟨d, 0, none⟩))
        | 14 => (fun v _ => v = .pointer (some ⟨d, 1, none⟩))
        | 15 => (fun v _ => v = .slice (some ⟨g, 0, none⟩) nL cL)
        | 16 => (fun v _ => v = .int .i64 (ix : Int))
        | 17 => (fun v _ => v = .int .i64 (jx : Int))
        | 18 => (fun v _ => v = .slice (some AJ) (nL - jx) (cL - jx))
        | 19 => (fun v W => W.ownsRow w1.heap.size DPT 4 v (ix + 1 + (nL - jx)) (FA ++ NW ++ FB))
        | 20 => (fun v _ => v = .pointer (some ⟨d, 0, none⟩))
        | 21 => (fun v _ => v = .pointer (some ⟨d, 1, none⟩))
        | 22 => (fun v W => ∃ v', Dd W d nodes v' L1 vC cs ∧ ∀ k, v'.ownBlock = some k → w1.heap.size ≤ k)
        | _ => (fun _ _ => True)) #[0, 0, 0, 4, 12, 28, 0, 124, 254, 0, 512, 2046, 0, 4096, 12288, 28672, 0, 65536, 258048, 524286, 1048575, 2097151, 4194303] #[0, 0, 0, 4, 8, 16, 0, 96, 130, 0, 512, 1280, 0, 4096, 8192, 16384, 0, 65536, 163840, 264192, 1, 1048576, 2621440] 7860989 22 (by kernel_rfl) 23 rfl (by kernel_rfl) (fun m hm => by subst hm; kernel_rfl) (by kernel_rfl) (fun w => Lo.refl _ _ _) (fun u v w h1 h2 => h1.trans h2) ?_ ?_ (below_drewN 1 w1) ?_ ?_
    · intro k u v hk hr
      by_cases hs : k = 11 ∨ k = 19 ∨ k = 22
      · have h := hr.1 hs; exact h
      · have h := hr.2 hs; exact Lo.of h.2
    · intro i hi hiz
      rcases (by omega : i = 0 ∨ i = 1 ∨ i = 2 ∨ i = 3 ∨ i = 4 ∨ i = 5 ∨ i = 6 ∨ i = 7 ∨ i = 8 ∨ i = 9 ∨ i = 10 ∨ i = 11 ∨ i = 12 ∨ i = 13 ∨ i = 14 ∨ i = 15 ∨ i = 16 ∨ i = 17 ∨ i = 18 ∨ i = 19 ∨ i = 20 ∨ i = 21 ∨ i = 22) with rfl | rfl | rfl | rfl | rfl | rfl | rfl | rfl | rfl | rfl | rfl | rfl | rfl | rfl | rfl | rfl | rfl | rfl | rfl | rfl | rfl | rfl | rfl
      · intro k hk q hq hqt v w w' h hr
        by_cases hs : k = 11 ∨ k = 19 ∨ k = 22
        · have hr0 := hr.1 hs
          rcases hs with rfl | rfl | rfl
          · exact (fun (h : _) (hr : _) => by exact h) h hr0
          · exact (fun (h : _) (hr : _) => by exact h) h hr0
          · exact (fun (h : _) (hr : _) => by exact h) h hr0
        · have hr := hr.2 hs
          exact h
      · intro k hk q hq hqt v w w' h hr
        by_cases hs : k = 11 ∨ k = 19 ∨ k = 22
        · have hr0 := hr.1 hs
          rcases hs with rfl | rfl | rfl
          · exact absurd (hq.trans hqt) (ne_true_of_eq_false (by kernel_rfl))
          · exact absurd (hq.trans hqt) (ne_true_of_eq_false (by kernel_rfl))
          · exact absurd (hq.trans hqt) (ne_true_of_eq_false (by kernel_rfl))
        · have hr := hr.2 hs
          obtain ⟨A0, h1, h2⟩ := h; exact ⟨A0, h1, own_kept h2 hr.1⟩
      · intro k hk q hq hqt v w w' h hr
        by_cases hs : k = 11 ∨ k = 19 ∨ k = 22
        · have hr0 := hr.1 hs
          rcases hs with rfl | rfl | rfl
          · exact (fun (h : _) (hr : _) => by exact h) h hr0
          · exact (fun (h : _) (hr : _) => by exact h) h hr0
          · exact (fun (h : _) (hr : _) => by exact h) h hr0
        · have hr := hr.2 hs
          exact h
      · intro k hk q hq hqt v w w' h hr
        by_cases hs : k = 11 ∨ k = 19 ∨ k = 22
        · have hr0 := hr.1 hs
          rcases hs with rfl | rfl | rfl
          · exact (fun (h : _) (hr : _) => by exact h) h hr0
          · exact (fun (h : _) (hr : _) => by exact h) h hr0
          · exact (fun (h : _) (hr : _) => by exact h) h hr0
        · have hr := hr.2 hs
          exact h
      · intro k hk q hq hqt v w w' h hr
        by_cases hs : k = 11 ∨ k = 19 ∨ k = 22
        · have hr0 := hr.1 hs
          rcases hs with rfl | rfl | rfl
          · exact (fun (h : _) (hr : _) => by exact h) h hr0
          · exact (fun (h : _) (hr : _) => by exact h) h hr0
          · exact (fun (h : _) (hr : _) => by exact h) h hr0
        · have hr := hr.2 hs
          exact h
      · intro k hk q hq hqt v w w' h hr
        by_cases hs : k = 11 ∨ k = 19 ∨ k = 22
        · have hr0 := hr.1 hs
          rcases hs with rfl | rfl | rfl
          · exact (fun (h : _) (hr : _) => by exact h) h hr0
          · exact (fun (h : _) (hr : _) => by exact h) h hr0
          · exact (fun (h : _) (hr : _) => by exact h) h hr0
        · have hr := hr.2 hs
          exact h
      · intro k hk q hq hqt v w w' h hr
        by_cases hs : k = 11 ∨ k = 19 ∨ k = 22
        · have hr0 := hr.1 hs
          rcases hs with rfl | rfl | rfl
          · exact (fun (h : _) (hr : _) => by exact h) h hr0
          · exact (fun (h : _) (hr : _) => by exact h) h hr0
          · exact (fun (h : _) (hr : _) => by exact h) h hr0
        · have hr := hr.2 hs
          exact h
      · intro k hk q hq hqt v w w' h hr
        by_cases hs : k = 11 ∨ k = 19 ∨ k = 22
        · have hr0 := hr.1 hs
          rcases hs with rfl | rfl | rfl
          · exact (fun (h : _) (hr : _) => by exact h) h hr0
          · exact (fun (h : _) (hr : _) => by exact h) h hr0
          · exact (fun (h : _) (hr : _) => by exact h) h hr0
        · have hr := hr.2 hs
          exact h
      · intro k hk q hq hqt v w w' h hr
        by_cases hs : k = 11 ∨ k = 19 ∨ k = 22
        · have hr0 := hr.1 hs
          rcases hs with rfl | rfl | rfl
          · exact absurd (hq.trans hqt) (ne_true_of_eq_false (by kernel_rfl))
          · exact absurd (hq.trans hqt) (ne_true_of_eq_false (by kernel_rfl))
          · exact absurd (hq.trans hqt) (ne_true_of_eq_false (by kernel_rfl))
        · have hr := hr.2 hs
          exact own_kept h hr.1
      · intro k hk q hq hqt v w w' h hr
        by_cases hs : k = 11 ∨ k = 19 ∨ k = 22
        · have hr0 := hr.1 hs
          rcases hs with rfl | rfl | rfl
          · exact (fun (h : _) (hr : _) => by exact h) h hr0
          · exact (fun (h : _) (hr : _) => by exact h) h hr0
          · exact (fun (h : _) (hr : _) => by exact h) h hr0
        · have hr := hr.2 hs
          exact h
      · intro k hk q hq hqt v w w' h hr
        by_cases hs : k = 11 ∨ k = 19 ∨ k = 22
        · have hr0 := hr.1 hs
          rcases hs with rfl | rfl | rfl
          · exact absurd (hq.trans hqt) (ne_true_of_eq_false (by kernel_rfl))
          · exact absurd (hq.trans hqt) (ne_true_of_eq_false (by kernel_rfl))
          · exact absurd (hq.trans hqt) (ne_true_of_eq_false (by kernel_rfl))
        · have hr := hr.2 hs
          obtain ⟨j, h1, h2, h3⟩ := h; exact ⟨j, h1, Nat.lt_of_lt_of_le h2 hr.1.size, (hr.1.block j h2).trans h3⟩
      · intro k hk q hq hqt v w w' h hr
        by_cases hs : k = 11 ∨ k = 19 ∨ k = 22
        · have hr0 := hr.1 hs
          rcases hs with rfl | rfl | rfl
          · exact absurd (hq.trans hqt) (ne_true_of_eq_false (by kernel_rfl))
          · exact absurd (hq.trans hqt) (ne_true_of_eq_false (by kernel_rfl))
          · exact absurd (hq.trans hqt) (ne_true_of_eq_false (by kernel_rfl))
        · have hr := hr.2 hs
          exact own_kept h hr.1
      · intro k hk q hq hqt v w w' h hr
        by_cases hs : k = 11 ∨ k = 19 ∨ k = 22
        · have hr0 := hr.1 hs
          rcases hs with rfl | rfl | rfl
          · exact (fun (h : _) (hr : _) => by exact h) h hr0
          · exact (fun (h : _) (hr : _) => by exact h) h hr0
          · exact (fun (h : _) (hr : _) => by exact h) h hr0
        · have hr := hr.2 hs
          exact h
      · intro k hk q hq hqt v w w' h hr
        by_cases hs : k = 11 ∨ k = 19 ∨ k = 22
        · have hr0 := hr.1 hs
          rcases hs with rfl | rfl | rfl
          · exact (fun (h : _) (hr : _) => by exact h) h hr0
          · exact (fun (h : _) (hr : _) => by exact h) h hr0
          · exact (fun (h : _) (hr : _) => by exact h) h hr0
        · have hr := hr.2 hs
          exact h
      · intro k hk q hq hqt v w w' h hr
        by_cases hs : k = 11 ∨ k = 19 ∨ k = 22
        · have hr0 := hr.1 hs
          rcases hs with rfl | rfl | rfl
          · exact (fun (h : _) (hr : _) => by exact h) h hr0
          · exact (fun (h : _) (hr : _) => by exact h) h hr0
          · exact (fun (h : _) (hr : _) => by exact h) h hr0
        · have hr := hr.2 hs
          exact h
      · intro k hk q hq hqt v w w' h hr
        by_cases hs : k = 11 ∨ k = 19 ∨ k = 22
        · have hr0 := hr.1 hs
          rcases hs with rfl | rfl | rfl
          · exact (fun (h : _) (hr : _) => by exact h) h hr0
          · exact (fun (h : _) (hr : _) => by exact h) h hr0
          · exact (fun (h : _) (hr : _) => by exact h) h hr0
        · have hr := hr.2 hs
          exact h
      · intro k hk q hq hqt v w w' h hr
        by_cases hs : k = 11 ∨ k = 19 ∨ k = 22
        · have hr0 := hr.1 hs
          rcases hs with rfl | rfl | rfl
          · exact (fun (h : _) (hr : _) => by exact h) h hr0
          · exact (fun (h : _) (hr : _) => by exact h) h hr0
          · exact (fun (h : _) (hr : _) => by exact h) h hr0
        · have hr := hr.2 hs
          exact h
      · intro k hk q hq hqt v w w' h hr
        by_cases hs : k = 11 ∨ k = 19 ∨ k = 22
        · have hr0 := hr.1 hs
          rcases hs with rfl | rfl | rfl
          · exact (fun (h : _) (hr : _) => by exact h) h hr0
          · exact (fun (h : _) (hr : _) => by exact h) h hr0
          · exact (fun (h : _) (hr : _) => by exact h) h hr0
        · have hr := hr.2 hs
          exact h
      · intro k hk q hq hqt v w w' h hr
        by_cases hs : k = 11 ∨ k = 19 ∨ k = 22
        · have hr0 := hr.1 hs
          rcases hs with rfl | rfl | rfl
          · exact (fun (h : _) (hr : _) => by exact h) h hr0
          · exact (fun (h : _) (hr : _) => by exact h) h hr0
          · exact (fun (h : _) (hr : _) => by exact h) h hr0
        · have hr := hr.2 hs
          exact h
      · intro k hk q hq hqt v w w' h hr
        by_cases hs : k = 11 ∨ k = 19 ∨ k = 22
        · have hr0 := hr.1 hs
          rcases hs with rfl | rfl | rfl
          · exact absurd (hq.trans hqt) (ne_true_of_eq_false (by kernel_rfl))
          · exact absurd (hq.trans hqt) (ne_true_of_eq_false (by kernel_rfl))
          · exact absurd (hq.trans hqt) (ne_true_of_eq_false (by kernel_rfl))
        · have hr := hr.2 hs
          exact own_kept h hr.1
      · intro k hk q hq hqt v w w' h hr
        by_cases hs : k = 11 ∨ k = 19 ∨ k = 22
        · have hr0 := hr.1 hs
          rcases hs with rfl | rfl | rfl
          · exact absurd (hq.trans hqt) (ne_true_of_eq_false (by kernel_rfl))
          · exact absurd (hq.trans hqt) (ne_true_of_eq_false (by kernel_rfl))
          · exact (fun (h : _) (hr : _) => by exact h) h hr0
        · have hr := hr.2 hs
          exact h
      · intro k hk q hq hqt v w w' h hr
        by_cases hs : k = 11 ∨ k = 19 ∨ k = 22
        · have hr0 := hr.1 hs
          rcases hs with rfl | rfl | rfl
          · exact absurd (hq.trans hqt) (ne_true_of_eq_false (by kernel_rfl))
          · exact absurd (hq.trans hqt) (ne_true_of_eq_false (by kernel_rfl))
          · exact (fun (h : _) (hr : _) => by exact h) h hr0
        · have hr := hr.2 hs
          exact h
      · exact absurd rfl hiz
    · intro i hi
      rcases (by omega : i = 0 ∨ i = 1 ∨ i = 2 ∨ i = 3 ∨ i = 4 ∨ i = 5 ∨ i = 6 ∨ i = 7 ∨ i = 8 ∨ i = 9 ∨ i = 10 ∨ i = 11 ∨ i = 12 ∨ i = 13 ∨ i = 14 ∨ i = 15 ∨ i = 16 ∨ i = 17 ∨ i = 18 ∨ i = 19 ∨ i = 20 ∨ i = 21 ∨ i = 22) with rfl | rfl | rfl | rfl | rfl | rfl | rfl | rfl | rfl | rfl | rfl | rfl | rfl | rfl | rfl | rfl | rfl | rfl | rfl | rfl | rfl | rfl | rfl
      · -- 0: Op.move (Operand.tmp 0)
        intro l hl vs W hS hR hp
        obtain rfl : l = [] := hl.symm.trans (by kernel_rfl)
        clear hp hl
        refine opgoal (_) (some 64) rfl rfl fun K hK => ?_
        refine Runs.mk ?_
        simp only [putAll]
        go_simp
        refine hK _ _ ?_ (fun _ => hS) ⟨fun h => absurd h (by decide), fun _ => ((fun w => ⟨Below.refl _ _, Below.refl _ _⟩) W)⟩ _ rfl rfl
        first | rfl | go_simp | simp
      · -- 1: Op.buildSlice 47 0 #[]
        intro l hl vs W hS hR hp
        obtain rfl : l = [] := hl.symm.trans (by kernel_rfl)
        clear hp hl
        refine opgoal (_) (some 65) rfl rfl fun K hK => ?_
        refine Runs.mk ?_
        simp only [putAll]
        go_simp
        refine hK _ _ ⟨_, rfl, ?_⟩ (fun _ => below2 hS (below_alloc _ _)) ⟨fun h => absurd h (by decide), fun _ => ⟨below_alloc _ _, (below_alloc _ _).mono hS.size⟩⟩ _ rfl rfl
        exact World.ownsRow_lit (size := 4) W #[] 0 hS.size (by decide) rfl
      · -- 2: Op.move (Operand.tmp 0)
        intro l hl vs W hS hR hp
        obtain rfl : l = [] := hl.symm.trans (by kernel_rfl)
        clear hp hl
        refine opgoal (_) (some 66) rfl rfl fun K hK => ?_
        refine Runs.mk ?_
        simp only [putAll]
        go_simp
        refine hK _ _ ?_ (fun _ => hS) ⟨fun h => absurd h (by decide), fun _ => ((fun w => ⟨Below.refl _ _, Below.refl _ _⟩) W)⟩ _ rfl rfl
        first | rfl | go_simp | simp
      · -- 3: Op.nilCheck (Operand.tmp 66)
        intro l hl vs W hS hR hp
        obtain rfl : l = [(2, 66)] := hl.symm.trans (by kernel_rfl)
        have p2 : vs 2 = _ := hp 2 (by decide) (by decide)
        clear hp hl
        refine opgoal (_) (some 67) rfl rfl fun K hK => ?_
        refine Runs.mk ?_
        simp only [putAll]
        go_simp
        refine hK _ _ ?_ (fun _ => hS) ⟨fun h => absurd h (by decide), fun _ => ((fun w => ⟨Below.refl _ _, Below.refl _ _⟩) W)⟩ _ rfl rfl
        first | rfl | go_simp | simp
      · -- 4: Op.fieldAddr 56 (Operand.tmp 67) 1
        intro l hl vs W hS hR hp
        obtain rfl : l = [(2, 66), (3, 67)] := hl.symm.trans (by kernel_rfl)
        have p3 : vs 3 = _ := hp 3 (by decide) (by decide)
        clear hp hl
        refine opgoal (_) (some 68) rfl rfl fun K hK => ?_
        refine Runs.mk ?_
        simp only [putAll]
        go_simp
        refine hK _ _ ?_ (fun _ => hS) ⟨fun h => absurd h (by decide), fun _ => ((fun w => ⟨Below.refl _ _, Below.refl _ _⟩) W)⟩ _ rfl rfl
        first | rfl | go_simp | simp
      · -- 5: Op.load 47 (Operand.tmp 68)
        intro l hl vs W hS hR hp
        obtain rfl : l = [(2, 66), (3, 67), (4, 68)] := hl.symm.trans (by kernel_rfl)
        have p4 : vs 4 = _ := hp 4 (by decide) (by decide)
        clear hp hl
        refine opgoal (_) (some 69) rfl rfl fun K hK => ?_
        have hb1 : W.cell? ⟨d, 1, none⟩ = some VV := cell_below hS HCL.out
        rw [hVV.out] at hb1
        refine Runs.mk ?_
        simp only [putAll]
        go_simp
        refine hK _ _ ?_ (fun _ => hS) ⟨fun h => absurd h (by decide), fun _ => ((fun w => ⟨Below.refl _ _, Below.refl _ _⟩) W)⟩ _ rfl rfl
        first | rfl | go_simp | simp
      · -- 6: Op.move (Operand.tmp 1)
        intro l hl vs W hS hR hp
        obtain rfl : l = [] := hl.symm.trans (by kernel_rfl)
        clear hp hl
        refine opgoal (_) (some 70) rfl rfl fun K hK => ?_
        refine Runs.mk ?_
        simp only [putAll]
        go_simp
        refine hK _ _ ?_ (fun _ => hS) ⟨fun h => absurd h (by decide), fun _ => ((fun w => ⟨Below.refl _ _, Below.refl _ _⟩) W)⟩ _ rfl rfl
        first | rfl | go_simp | simp
      · -- 7: Op.slice 47 (Operand.tmp 69) none (some (Operand.tmp 70)) none
        intro l hl vs W hS hR hp
        obtain rfl : l = [(2, 66), (3, 67), (4, 68), (5, 69), (6, 70)] := hl.symm.trans (by kernel_rfl)
        have p5 : vs 5 = _ := hp 5 (by decide) (by decide)
        have p6 : vs 6 = _ := hp 6 (by decide) (by decide)
        clear hp hl
        refine opgoal (_) (some 71) rfl rfl fun K hK => ?_
        have hix := HIX.out
        refine Runs.mk ?_
        simp only [putAll]
        go_simp
        refine hK _ _ ?_ (fun _ => hS) ⟨fun h => absurd h (by decide), fun _ => ((fun w => ⟨Below.refl _ _, Below.refl _ _⟩) W)⟩ _ rfl rfl
        first | rfl | go_simp | simp
      · -- 8: Op.call { callee := Callee.builtin Builtin.append, args := #[Operand.tmp 65, Operand.tmp 71], argTypes := #[47, 47] }
        intro l hl vs W hS hR hp
        obtain rfl : l = [(1, 65), (2, 66), (3, 67), (4, 68), (5, 69), (6, 70), (7, 71)] := hl.symm.trans (by kernel_rfl)
        have p1 : (fun v W => ∃ A0, v = .slice A0 0 0 ∧ W.ownsRow w1.heap.size DPT 4 v 0 []) (vs 1) W := hp 1 (by decide) (by decide)
        dsimp only at p1
        have p7 : vs 7 = _ := hp 7 (by decide) (by decide)
        clear hp hl
        refine opgoal ({ dst := some 72, op := Op.call { callee := Callee.builtin Builtin.append, args := #[Operand.tmp 65, Operand.tmp 71], argTypes := #[47, 47] }, type := 47, pos := "ref.go:89", after := #[{ on := 1, ground := Ground.data }, { on := 7, ground := Ground.data }], guard := none }) (some 72) rfl rfl fun K hK => ?_
        obtain ⟨A0, q1, o1⟩ := p1
        rw [q1] at o1
        refine runs_append_fresh W (wanted_none rfl) (.tmp 65) (.tmp 71) w1.heap.size 47 DPT (.agg #[.int .i64 0, .int .i64 0, .string ⟨#[]⟩, .bool false]) 4 40 rfl (by kernel_rfl) (by kernel_rfl) rfl (by decide) (by decide) A0 (by simp [putAll, Act.put, Act.eval, q1]) o1 (some ⟨g, 0, none⟩) (ix) (cL) (by simp [putAll, Act.put, Act.eval, p7]) (fun h => by cases h) (FA) (hFA.out) (hLA.out W hS) (hOA.out) (by have := hn9.out; omega) hS.size ?_
        intro v' w' h1 h2
        exact hK _ _ h1 (fun _ => below2 hS h2) ⟨fun h => absurd h (by decide), fun _ => ⟨h2, h2.mono hS.size⟩⟩ _ put_dfs (put_slot (by simp))
      · -- 9: Op.load 49 (Operand.tmp 9)
        intro l hl vs W hS hR hp
        obtain rfl : l = [] := hl.symm.trans (by kernel_rfl)
        clear hp hl
        refine opgoal (_) (some 73) rfl rfl fun K hK => ?_
        obtain ⟨f0, f1, f2, f3⟩ := HPX1.out W hS
        refine Runs.mk ?_
        simp only [putAll]
        go_simp
        refine hK _ _ ?_ (fun _ => hS) ⟨fun h => absurd h (by decide), fun _ => ((fun w => ⟨Below.refl _ _, Below.refl _ _⟩) W)⟩ _ rfl rfl
        first | rfl | go_simp | simp
      · -- 10: Op.buildSlice 47 1 #[(0, Operand.tmp 73)]
        intro l hl vs W hS hR hp
        obtain rfl : l = [(9, 73)] := hl.symm.trans (by kernel_rfl)
        have p9 : vs 9 = _ := hp 9 (by decide) (by decide)
        clear hp hl
        refine opgoal (_) (some 74) rfl rfl fun K hK => ?_
        refine Runs.mk ?_
        simp only [putAll]
        go_simp
        have hb := below_alloc W (.cells #[.int .i64 px, .int .i64 py, .string s2, .bool true] DPT)
        exact hK _ _ ⟨W.heap.size, rfl, by simp, heap_alloc_new _ _⟩ (fun _ => below2 hS hb) ⟨fun h => absurd h (by decide), fun _ => ⟨hb, hb.mono hS.size⟩⟩ _ rfl rfl
      · -- 11: Op.call { callee := Callee.builtin Builtin.append, args := #[Operand.tmp 72, Operand.tmp 74], argTypes := #[47, 47] }
        intro l hl vs W hS hR hp
        obtain rfl : l = [(1, 65), (2, 66), (3, 67), (4, 68), (5, 69), (6, 70), (7, 71), (8, 72), (9, 73), (10, 74)] := hl.symm.trans (by kernel_rfl)
        have p8 : (fun v W => W.ownsRow w1.heap.size DPT 4 v (ix) (FA)) (vs 8) W := hp 8 (by decide) (by decide)
        dsimp only at p8
        have p10 : (fun v W => ∃ j, v = .slice (some ⟨j, 0, none⟩) 1 1 ∧ j < W.heap.size ∧ W.heap[j]? = some (.cells #[.int .i64 px, .int .i64 py, .string s2, .bool true] DPT (0, 0))) (vs 10) W := hp 10 (by decide) (by decide)
        dsimp only at p10
        clear hp hl
        obtain ⟨j, q10, l10, b10⟩ := p10
        refine opgoal ({ dst := some 75, op := Op.call { callee := Callee.builtin Builtin.append, args := #[Operand.tmp 72, Operand.tmp 74], argTypes := #[47, 47] }, type := 47, pos := "ref.go:89", after := #[{ on := 8, ground := Ground.data }, { on := 10, ground := Ground.data }, { on := 8, ground := Ground.chain }], guard := none }) (some 75) rfl rfl fun K hK => ?_
        refine runs_append_src W (wanted_none rfl) (.tmp 72) (.tmp 74) w1.heap.size 47 DPT (.agg #[.int .i64 0, .int .i64 0, .string ⟨#[]⟩, .bool false]) 4 40 rfl (by kernel_rfl) (by kernel_rfl) rfl (by decide) (by decide) (vs 8) (ix) (FA) (by simp [putAll, Act.put, Act.eval]) p8 (some ⟨j, 0, none⟩) (1) (1) (by simp [putAll, Act.put, Act.eval, q10]) (fun h => by cases h) (NW) (HNW.out.1) (by rw [HNW.out.2]; exact lies_block b10) (by rw [HNW.out.2]; simp [Value.oneCell']) (by have := hn9.out; omega) hS.size ?_
        intro v' w' h1 h2 h3
        have hbl := below_of_grown h2 hS.size (fun k hk => (own_lt p8 k hk).1)
        exact hK _ _ h1 (fun _ => hS.trans hbl) ⟨fun _ => Lo.of hbl, fun h => absurd (by decide) h⟩ _ put_dfs (put_slot (by simp))
      · -- 12: Op.move (Operand.tmp 0)
        intro l hl vs W hS hR hp
        obtain rfl : l = [] := hl.symm.trans (by kernel_rfl)
        clear hp hl
        refine opgoal (_) (some 76) rfl rfl fun K hK => ?_
        refine Runs.mk ?_
        simp only [putAll]
        go_simp
        refine hK _ _ ?_ (fun _ => hS) ⟨fun h => absurd h (by decide), fun _ => ((fun w => ⟨Below.refl _ _, Below.refl _ _⟩) W)⟩ _ rfl rfl
        first | rfl | go_simp | simp
      · -- 13: Op.nilCheck (Operand.tmp 76)
        intro l hl vs W hS hR hp
        obtain rfl : l = [(12, 76)] := hl.symm.trans (by kernel_rfl)
        have p12 : vs 12 = _ := hp 12 (by decide) (by decide)
        clear hp hl
        refine opgoal (_) (some 77) rfl rfl fun K hK => ?_
        refine Runs.mk ?_
        simp only [putAll]
        go_simp
        refine hK _ _ ?_ (fun _ => hS) ⟨fun h => absurd h (by decide), fun _ => ((fun w => ⟨Below.refl _ _, Below.refl _ _⟩) W)⟩ _ rfl rfl
        first | rfl | go_simp | simp
      · -- 14: Op.fieldAddr 56 (Operand.tmp 77) 1
        intro l hl vs W hS hR hp
        obtain rfl : l = [(12, 76), (13, 77)] := hl.symm.trans (by kernel_rfl)
        have p13 : vs 13 = _ := hp 13 (by decide) (by decide)
        clear hp hl
        refine opgoal (_) (some 78) rfl rfl fun K hK => ?_
        refine Runs.mk ?_
        simp only [putAll]
        go_simp
        refine hK _ _ ?_ (fun _ => hS) ⟨fun h => absurd h (by decide), fun _ => ((fun w => ⟨Below.refl _ _, Below.refl _ _⟩) W)⟩ _ rfl rfl
        first | rfl | go_simp | simp
      · -- 15: Op.load 47 (Operand.tmp 78)
        intro l hl vs W hS hR hp
        obtain rfl : l = [(12, 76), (13, 77), (14, 78)] := hl.symm.trans (by kernel_rfl)
        have p14 : vs 14 = _ := hp 14 (by decide) (by decide)
        clear hp hl
        refine opgoal (_) (some 79) rfl rfl fun K hK => ?_
        have hb1 : W.cell? ⟨d, 1, none⟩ = some VV := cell_below hS HCL.out
        rw [hVV.out] at hb1
        refine Runs.mk ?_
        simp only [putAll]
        go_simp
        refine hK _ _ ?_ (fun _ => hS) ⟨fun h => absurd h (by decide), fun _ => ((fun w => ⟨Below.refl _ _, Below.refl _ _⟩) W)⟩ _ rfl rfl
        first | rfl | go_simp | simp
      · -- 16: Op.move (Operand.tmp 1)
        intro l hl vs W hS hR hp
        obtain rfl : l = [] := hl.symm.trans (by kernel_rfl)
        clear hp hl
        refine opgoal (_) (some 80) rfl rfl fun K hK => ?_
        refine Runs.mk ?_
        simp only [putAll]
        go_simp
        refine hK _ _ ?_ (fun _ => hS) ⟨fun h => absurd h (by decide), fun _ => ((fun w => ⟨Below.refl _ _, Below.refl _ _⟩) W)⟩ _ rfl rfl
        first | rfl | go_simp | simp
      · -- 17: Op.binOp BinOp.add 3 (Operand.tmp 80) (Operand.const (Value.int IntKind.i64 1)) 3
        intro l hl vs W hS hR hp
        obtain rfl : l = [(16, 80)] := hl.symm.trans (by kernel_rfl)
        have p16 : vs 16 = _ := hp 16 (by decide) (by decide)
        clear hp hl
        refine opgoal (_) (some 81) rfl rfl fun K hK => ?_
        have hwr' := hwrI.out
        refine Runs.mk ?_
        simp only [putAll]
        go_simp
        refine hK _ _ ?_ (fun _ => hS) ⟨fun h => absurd h (by decide), fun _ => ((fun w => ⟨Below.refl _ _, Below.refl _ _⟩) W)⟩ _ rfl rfl
        first | rfl | go_simp | simp
      · -- 18: Op.slice 47 (Operand.tmp 79) (some (Operand.tmp 81)) none none
        intro l hl vs W hS hR hp
        obtain rfl : l = [(12, 76), (13, 77), (14, 78), (15, 79), (16, 80), (17, 81)] := hl.symm.trans (by kernel_rfl)
        have p15 : vs 15 = _ := hp 15 (by decide) (by decide)
        have p17 : vs 17 = _ := hp 17 (by decide) (by decide)
        clear hp hl
        refine opgoal (_) (some 82) rfl rfl fun K hK => ?_
        have hAJ' := hAJ.out
        have hix := HIX.out
        refine Runs.mk ?_
        simp only [putAll]
        go_simp
        refine hK _ _ ?_ (fun _ => hS) ⟨fun h => absurd h (by decide), fun _ => ((fun w => ⟨Below.refl _ _, Below.refl _ _⟩) W)⟩ _ rfl rfl
        first | rfl | go_simp | simp
      · -- 19: Op.call { callee := Callee.builtin Builtin.append, args := #[Operand.tmp 75, Operand.tmp 82], argTypes := #[47, 47] }
        intro l hl vs W hS hR hp
        obtain rfl : l = [(1, 65), (2, 66), (3, 67), (4, 68), (5, 69), (6, 70), (7, 71), (8, 72), (9, 73), (10, 74), (11, 75), (12, 76), (13, 77), (14, 78), (15, 79), (16, 80), (17, 81), (18, 82)] := hl.symm.trans (by kernel_rfl)
        have p11 : (fun v W => W.ownsRow w1.heap.size DPT 4 v (ix + 1) (FA ++ NW)) (vs 11) W := hp 11 (by decide) (by decide)
        dsimp only at p11
        have p18 : vs 18 = _ := hp 18 (by decide) (by decide)
        clear hp hl
        refine opgoal ({ dst := some 83, op := Op.call { callee := Callee.builtin Builtin.append, args := #[Operand.tmp 75, Operand.tmp 82], argTypes := #[47, 47] }, type := 47, pos := "ref.go:89", after := #[{ on := 11, ground := Ground.data }, { on := 18, ground := Ground.data }, { on := 11, ground := Ground.chain }], guard := none }) (some 83) rfl rfl fun K hK => ?_
        refine runs_append_src W (wanted_none rfl) (.tmp 75) (.tmp 82) w1.heap.size 47 DPT (.agg #[.int .i64 0, .int .i64 0, .string ⟨#[]⟩, .bool false]) 4 40 rfl (by kernel_rfl) (by kernel_rfl) rfl (by decide) (by decide) (vs 11) (ix + 1) (FA ++ NW) (by simp [putAll, Act.put, Act.eval]) p11 (some AJ) ((nL - jx)) ((cL - jx)) (by simp [putAll, Act.put, Act.eval, p18]) (fun h => by cases h) (FB) (hFB.out) (hLB.out W hS) (hOB.out) (by have := hn9.out; omega) hS.size ?_
        intro v' w' h1 h2 h3
        have hbl := below_of_grown h2 hS.size (fun k hk => (own_lt p11 k hk).1)
        exact hK _ _ h1 (fun _ => hS.trans hbl) ⟨fun _ => Lo.of hbl, fun h => absurd (by decide) h⟩ _ put_dfs (put_slot (by simp))
      · -- 20: Op.nilCheck (Operand.tmp 64)
        intro l hl vs W hS hR hp
        obtain rfl : l = [(0, 64), (1, 65), (2, 66), (3, 67), (4, 68), (5, 69), (6, 70), (7, 71), (8, 72), (9, 73), (10, 74), (11, 75), (12, 76), (13, 77), (14, 78), (15, 79), (16, 80), (17, 81), (18, 82), (19, 83)] := hl.symm.trans (by kernel_rfl)
        have p0 : vs 0 = _ := hp 0 (by decide) (by decide)
        clear hp hl
        refine opgoal (_) (some 84) rfl rfl fun K hK => ?_
        refine Runs.mk ?_
        simp only [putAll]
        go_simp
        refine hK _ _ ?_ (fun _ => hS) ⟨fun h => absurd h (by decide), fun _ => ((fun w => ⟨Below.refl _ _, Below.refl _ _⟩) W)⟩ _ rfl rfl
        first | rfl | go_simp | simp
      · -- 21: Op.fieldAddr 56 (Operand.tmp 84) 1
        intro l hl vs W hS hR hp
        obtain rfl : l = [(0, 64), (1, 65), (2, 66), (3, 67), (4, 68), (5, 69), (6, 70), (7, 71), (8, 72), (9, 73), (10, 74), (11, 75), (12, 76), (13, 77), (14, 78), (15, 79), (16, 80), (17, 81), (18, 82), (19, 83), (20, 84)] := hl.symm.trans (by kernel_rfl)
        have p20 : vs 20 = _ := hp 20 (by decide) (by decide)
        clear hp hl
        refine opgoal (_) (some 85) rfl rfl fun K hK => ?_
        refine Runs.mk ?_
        simp only [putAll]
        go_simp
        refine hK _ _ ?_ (fun _ => hS) ⟨fun h => absurd h (by decide), fun _ => ((fun w => ⟨Below.refl _ _, Below.refl _ _⟩) W)⟩ _ rfl rfl
        first | rfl | go_simp | simp
      · -- 22: Op.store 47 (Operand.tmp 85) (Operand.tmp 83)
        intro l hl vs W hS hR hp
        obtain rfl : l = [(0, 64), (1, 65), (2, 66), (3, 67), (4, 68), (5, 69), (6, 70), (7, 71), (8, 72), (9, 73), (10, 74), (11, 75), (12, 76), (13, 77), (14, 78), (15, 79), (16, 80), (17, 81), (18, 82), (19, 83), (20, 84), (21, 85)] := hl.symm.trans (by kernel_rfl)
        have p19 : (fun v W => W.ownsRow w1.heap.size DPT 4 v (ix + 1 + (nL - jx)) (FA ++ NW ++ FB)) (vs 19) W := hp 19 (by decide) (by decide)
        dsimp only at p19
        have p21 : vs 21 = _ := hp 21 (by decide) (by decide)
        clear hp hl
        refine opgoal (_) (none) rfl rfl fun K hK => ?_
        obtain ⟨A', c', q19⟩ := own_form4 p19
        rw [q19] at p19
        have hb1 : W.cell? ⟨d, 1, none⟩ = some VV := cell_below hS HCL.out
        have hf1 : W.frozen? ⟨d, 1, none⟩ = false := (HD.out.below hS).cell.2.2.2.1
        refine Runs.mk ?_
        simp only [putAll]
        go_simp
        refine hK undef _ ?_ (fun h => absurd rfl h) ⟨fun _ => Lo.set _ _ _ _ _, fun h => absurd (by decide) h⟩ _ rfl rfl
        exact dd_fin HD.out hS p19 HE1.out.1 HE1.out.2
    · intro l hl vs W hR hp
      obtain rfl : l = [(0, 64), (1, 65), (2, 66), (3, 67), (4, 68), (5, 69), (6, 70), (7, 71), (8, 72), (9, 73), (10, 74), (11, 75), (12, 76), (13, 77), (14, 78), (15, 79), (16, 80), (17, 81), (18, 82), (19, 83), (20, 84), (21, 85)] := hl.symm.trans (by kernel_rfl)
      have p0 : vs 0 = _ := hp 0 (by decide) (by decide)
      have p2 : vs 2 = _ := hp 2 (by decide) (by decide)
      have p3 : vs 3 = _ := hp 3 (by decide) (by decide)
      have p4 : vs 4 = _ := hp 4 (by decide) (by decide)
      have p5 : vs 5 = _ := hp 5 (by decide) (by decide)
      have p6 : vs 6 = _ := hp 6 (by decide) (by decide)
      have p7 : vs 7 = _ := hp 7 (by decide) (by decide)
      have p9 : vs 9 = _ := hp 9 (by decide) (by decide)
      have p12 : vs 12 = _ := hp 12 (by decide) (by decide)
      have p13 : vs 13 = _ := hp 13 (by decide) (by decide)
      have p14 : vs 14 = _ := hp 14 (by decide) (by decide)
      have p15 : vs 15 = _ := hp 15 (by decide) (by decide)
      have p16 : vs 16 = _ := hp 16 (by decide) (by decide)
      have p17 : vs 17 = _ := hp 17 (by decide) (by decide)
      have p18 : vs 18 = _ := hp 18 (by decide) (by decide)
      have p20 : vs 20 = _ := hp 20 (by decide) (by decide)
      have p21 : vs 21 = _ := hp 21 (by decide) (by decide)
      have p22 : (fun v W => ∃ v', Dd W d nodes v' L1 vC cs ∧ ∀ k, v'.ownBlock = some k → w1.heap.size ≤ k) (vs 22) W := hp 22 (by decide) (by decide)
      dsimp only at p22
      clear hp hl
      simp only [putAll_mk, setAll, List.setIfInBounds_toArray, List.set_cons_succ, List.set_cons_zero, p0, p2, p3, p4, p5, p6, p7, p9, p12, p13, p14, p15, p16, p17, p18, p20, p21]
      have HE := Lib.hid p22
      have HR := Lib.hid hR
      clear p22 hR
      go_wp2
      go_ret
      exact ⟨rfl, HFIN.out _ HE.out HR.out⟩
end Go.Proofs.Ytbdcgfdchkbcnaa.Ne

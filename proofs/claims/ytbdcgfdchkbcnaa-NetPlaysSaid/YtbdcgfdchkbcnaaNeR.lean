/- net: HealAll, Spoil. -/
import Derived.Test.YtbdcgfdchkbcnaaNeJ
import Derived.Test.YtbdcgfdchkbcnaaD
import Derived.Laws.IdiomStrings
namespace Go.Proofs.Ytbdcgfdchkbcnaa.Ne
open Go.RowKit Go.Proofs.Ytbdcgfdchkbcnaa.L Go.Proofs.Ytbdcgfdchkbcnaa.O Go.Proofs.Ytbdcgfdchkbcnaa.R Go.Proofs.Ytbdcgfdchkbcnaa.A Go.Proofs.Ytbdcgfdchkbcnaa.S Go.Proofs.Ytbdcgfdchkbcnaa.T Go.Proofs.Ytbdcgfdchkbcnaa.C Go.Proofs.Ytbdcgfdchkbcnaa.G Go.Proofs.Ytbdcgfdchkbcnaa.E
set_option linter.unusedVariables false
set_option linter.unusedSimpArgs false

theorem way_clear {w : World} {b n : Nat} {f : Int → Int → Bool} (h : WayMap w b n f) :
    ∃ w', (∀ ty, (Builtin.clear_ #[MT] ty #[.map (some b)]).run Try.prog w = .ok (.tuple #[]) w') ∧ WayMap w' b 0 (fun _ _ => false) ∧ Keep [b] w w' := by
  have hlt := h.lt
  obtain ⟨D, ⟨es, clock, hb, F, hs, hD⟩, hat⟩ := h
  refine ⟨{ w with heap := w.heap.setIfInBounds b (.map #[] clock) }, fun ty => ?_, ⟨.map [], ⟨#[], clock, ?_, ⟨by simp, MapKept.stamped_empty clock, by simp⟩, Nat.le_refl _, rfl⟩, fun x y kl _ => rfl⟩, ?_⟩
  · simp [Builtin.clear_, run_underlying way_info.1, MapKept.run_getObj_map hb, MapKept.run_setObj_map _ hb, Result.andThen]
  · show (w.heap.setIfInBounds b _)[b]? = _
    simp [hlt]
  · refine ⟨rfl, rfl, rfl, by simp, fun k hk hn => ?_⟩
    show (w.heap.setIfInBounds b _)[k]? = _
    have : ¬ b = k := fun e => hn (by simp [e])
    simp [this]
theorem heal_all (b mb nodes n : Nat) (f : Int → Int → Bool) (v : Value) (L : List Value) (k : Nat) (w : World) (h : Nt w b mb nodes n f v L k) :
    Calls Try.prog 31 #[.pointer (some ⟨b, 0, none⟩)] w fun e w' => e = .returned (.tuple #[]) ∧ Nt w' b mb nodes 0 (fun _ _ => false) v L k ∧ Keep [mb] w w' := by
  obtain ⟨c0, c1, c2, f2⟩ := h.cell
  have hmb := h.mb
  obtain ⟨w1, hcl, hm, hk⟩ := way_clear h.map
  have HR : Hid (Nt w1 b mb nodes 0 (fun _ _ => false) v L k ∧ Keep [mb] w w1) := Lib.hid ⟨⟨keep_block hk h.blk (by simp; omega), own_keep h.own hk (fun j hj => by have := (Go.Proofs.Ytbdcgfdchkbcnaa.A.own_lt h.own j hj).1; simp; omega), hm, hmb⟩, hk⟩
  clear h hm hk
  go_enter Try.func31, Try.ntmps31
  go_wp2
  go_end0
  exact ⟨rfl, HR.out⟩
/-- the string in which byte k is another one. -/
def spB (s : ByteArray) (k y : Nat) : ByteArray := ⟨(s.data.toList.set k (UInt8.ofNat ((s.data.toList.getD k 0).toNat ^^^ y))).toArray⟩
def spL (L : List Value) (o : Nat) (s2 : ByteArray) (q1 q2 : Bool) : List Value :=
  if q2 then (if q1 then L.set (o + 2) (.string s2) else L).set (o + 3) (.bool true) else (if q1 then L.set (o + 2) (.string s2) else L)
theorem spL_1 (L : List Value) (o : Nat) (s2 : ByteArray) (q2 : Bool) : (spL L o s2 false q2).set (o + 2) (.string s2) = spL L o s2 true q2 := by
  cases q2
  · rfl
  · exact List.set_comm _ _ (by omega)
theorem spL_2 (L : List Value) (o : Nat) (s2 : ByteArray) (q1 : Bool) : (spL L o s2 q1 false).set (o + 3) (.bool true) = spL L o s2 q1 true := rfl
theorem spL_len (L : List Value) (o : Nat) (s2 : ByteArray) (q1 q2 : Bool) : (spL L o s2 q1 q2).length = L.length := by
  cases q1 <;> cases q2 <;> simp [spL]
theorem spL_flat (s2 : ByteArray) : ∀ (Ls : List Pkt) (ix : Nat) (h : ix < Ls.length), spL (Ls.flatMap encP) (ix * 4) s2 true true = (Ls.set ix ⟨Ls[ix].a, Ls[ix].b, s2, true⟩).flatMap encP
  | p :: Ls, 0, h => by simp [spL, encP]
  | p :: Ls, ix + 1, h => by
    have ih := spL_flat s2 Ls ix (by simpa using h)
    simp only [List.flatMap_cons, List.set_cons_succ, List.getElem_cons_succ]
    rw [← ih]
    simp only [spL, if_pos]
    rw [show (ix + 1) * 4 + 2 = (ix * 4 + 2) + 1 + 1 + 1 + 1 by omega, show (ix + 1) * 4 + 3 = (ix * 4 + 3) + 1 + 1 + 1 + 1 by omega]
    simp [encP]
structure SpW (b mb nodes n : Nat) (f : Int → Int → Bool) (g cap m : Nat) (L : List Value) (o : Nat) (s2 : ByteArray) (xb : Nat) (BO : Obj) (q1 q2 : Bool) (W : World) : Prop where
  nt : Nt W b mb nodes n f (.slice (some ⟨g, 0, none⟩) m cap) (spL L o s2 q1 q2) m
  by_ : W.heap[xb]? = some BO
  ne : xb ≠ g
  lt : o + 3 < m * 4
section
variable {b mb nodes n : Nat} {f : Int → Int → Bool} {g cap m : Nat} {L : List Value} {o : Nat} {s2 : ByteArray} {xb : Nat} {BO : Obj} {q1 q2 : Bool} {W : World}
theorem SpW.cells (h : SpW b mb nodes n f g cap m L o s2 xb BO q1 q2 W) : W.cell? ⟨b, 2, none⟩ = some (.slice (some ⟨g, 0, none⟩) m cap) ∧ (∃ u, W.cell? ⟨g, o + 2, none⟩ = some u) ∧ (∃ u, W.cell? ⟨g, o + 3, none⟩ = some u) ∧ W.frozen? ⟨g, o + 2, none⟩ = false ∧ W.frozen? ⟨g, o + 3, none⟩ = false := by
  obtain ⟨-, -, -, hle, -, hc, -⟩ := own_some h.nt.own
  have hlt := h.lt
  have : m * 4 ≤ cap * 4 := Nat.mul_le_mul_right 4 hle
  have h2 := hc (o + 2) (by omega)
  have h3 := hc (o + 3) (by omega)
  exact ⟨h.nt.cell.2.2.1, Option.isSome_iff_exists.1 h2.1, Option.isSome_iff_exists.1 h3.1, h2.2, h3.2⟩
theorem SpW.put {q1' q2' : Bool} (t : Nat) (v : Value) (h : SpW b mb nodes n f g cap m L o s2 xb BO q1 q2 W) (ht : t < m * 4) (hL : (spL L o s2 q1 q2).set t v = spL L o s2 q1' q2') : SpW b mb nodes n f g cap m L o s2 xb BO q1' q2' (W.setCell ⟨g, t, none⟩ v) ∧ Keep [g] W (W.setCell ⟨g, t, none⟩ v) := by
  obtain ⟨h1, h2⟩ := own_put t v h.nt.own ht
  have hgb := (own_some h.nt.own).2.1
  have hmb := h.nt.mb
  rw [hL] at h1
  exact ⟨⟨⟨keep_block h2 h.nt.blk (by simp; omega), h1, h.nt.map.keep h2 (by simp; omega), hmb⟩, keep_block h2 h.by_ (by simpa using h.ne), h.ne, h.lt⟩, h2⟩
end
set_option maxHeartbeats 8000000 in
set_option maxRecDepth 100000 in
theorem spoil_ok (b mb nodes n : Nat) (f : Int → Int → Bool) (VV : Value) (Ls : List Pkt) (ix k y : Nat) (w : World) (h : Nt w b mb nodes n f VV (Ls.flatMap encP) Ls.length) (hi : ix < Ls.length) (hsm : Ls.length ≤ 256) (hq : Ls[ix].q = false) (hk : k < Ls[ix].s.size) (hy0 : 0 < y) (hy : y < 256) :
    Calls Try.prog 32 #[.pointer (some ⟨b, 0, none⟩), .int .i64 ix, .int .i64 k, .int .u8 y] w fun e w' => e = .returned (.int .i64 0) ∧ GoesN b mb nodes n f VV ((Ls.set ix ⟨Ls[ix].a, Ls[ix].b, spB Ls[ix].s k y, true⟩).flatMap encP) Ls.length w w' := by
  obtain ⟨g, cap, hv⟩ : ∃ g cap, VV = .slice (some ⟨g, 0, none⟩) Ls.length cap := by
    rcases h.own.2 with ⟨_, hn⟩ | ⟨g, cap, cur, hv, _⟩
    · omega
    · exact ⟨g, cap, hv⟩
  rw [← spL_flat (spB Ls[ix].s k y) Ls ix hi]
  obtain ⟨m, hm⟩ : ∃ m, Ls.length = m := ⟨_, rfl⟩
  have hT := Lib.hid (there_ok b nodes mb n f VV _ m ix w (hm ▸ h) (by omega))
  obtain ⟨⟨p1, p2, p3, p4⟩, hp⟩ : ∃ p : Pkt, Ls[ix] = p := ⟨_, rfl⟩
  rw [hp] at hq hk ⊢
  dsimp only at hq hk ⊢
  subst hq
  obtain ⟨s2, hs2⟩ : ∃ s2, Hid (spB p3 k y = s2) := ⟨_, Lib.hid rfl⟩
  rw [hs2.out]
  have hgw := own_some (hv ▸ h.own)
  have hmb := h.mb
  have hmw := h.map.lt
  have hbw := (Array.getElem?_eq_some_iff.1 h.blk).1
  have hown := h.own
  rw [hv, hm] at hown
  obtain ⟨A', c', hv', hrd, -, -⟩ := own_rdE hown encP_len hm
  cases hv'
  obtain ⟨ab, ao, hAe, q0, qa, qs, qq⟩ := pkt_at hrd ix (by omega) hi _ hp
  obtain ⟨rfl, rfl⟩ : g = ab ∧ 0 = ao := by injection hAe with h1; injection h1 with h1 h2; exact ⟨h1, h2⟩
  obtain ⟨c0, c1, c2, f2⟩ := h.cell
  rw [hv, hm] at c2
  dsimp only at q0 qa qs qq
  rw [Nat.zero_add] at q0 qa qs qq
  rw [hm] at hi hsm hv ⊢
  obtain ⟨L, hL⟩ : ∃ L, Ls.flatMap encP = L := ⟨_, rfl⟩
  rw [hL, hm] at h
  rw [hL]
  have hxz := bits_xor8 (p3.data.toList.getD k 0).toNat y (by have := (p3.data.toList.getD k 0).toNat_lt; omega) (by omega)
  obtain ⟨z, hz⟩ : ∃ z, Hid ((p3.data.toList.getD k 0).toNat ^^^ y = z) := ⟨_, Lib.hid rfl⟩
  have hz8 : Hid (z < 256) := Lib.hid (by rw [← hz.out]; exact Nat.xor_lt_two_pow (n := 8) (by have := (p3.data.toList.getD k 0).toNat_lt; omega) (by omega))
  rw [hz.out] at hxz
  have hxz : bits .xor .u8 (byteAt p3 k) (y : Int) = (z : Int) := hxz
  obtain ⟨xb, hxb⟩ : ∃ xb, Hid (w.heap.size = xb) := ⟨_, Lib.hid rfl⟩
  have hne : Hid (xb ≠ g ∧ xb ≠ b ∧ g ≠ b ∧ xb ≠ mb ∧ ix * 4 + 3 < m * 4) := Lib.hid (by have := hxb.out; omega)
  have hd1 : decide ((p3.size : Int) ≤ (k : Int)) = false := by simp; omega
  have hd2 : ((y : Int) == 0) = false := by simp; omega
  have hd3 : decide ((y : Int) = 0) = false := by simp; omega
  have hyz : ¬ y = 0 := by omega
  have HN := Lib.hid h
  have HV := Lib.hid hv
  have HIX := Lib.hid hi
  have HK := Lib.hid hk
  clear h hgw hmb hmw hbw hown hrd hAe c0 c1 f2 hL hsm hm hp q0 qa hy0 hv
  go_enter Try.func32, Try.ntmps32
  go_wp2_with fail
  refine hT.out.mono ?_
  rintro e w1 ⟨rfl, rfl⟩
  go_wp2_with (refine wpList_of_string rfl 9 71 5 _ rfl p3 rfl (by kernel_rfl) (by kernel_rfl) (by kernel_rfl) ?_; intro w2 bcap hB hz2 hb2; rw [hxb.out] at hB ⊢; have hbc := hB.cell HK.out; have hbf := hB.free HK.out)
  obtain ⟨W5, hW5⟩ : ∃ W5, Hid (w2.setCell ⟨xb, k, none⟩ (.int .u8 (z : Int)) = W5) := ⟨_, Lib.hid rfl⟩
  rw [hW5.out]
  have hB5 := hB.set HK.out (z : Int)
  rw [hW5.out] at hB5
  have hk5 : Keep [xb] w2 W5 := by rw [← hW5.out]; exact (Keep.refl _ _).setCell (p := ⟨xb, k, none⟩) (.inl (by simp)) _
  have hN2 := HN.out.below hb2
  have hlg : ∀ j, VV.ownBlock = some j → j = g := fun j hj => by rw [HV.out] at hj; simp [Value.ownBlock] at hj; exact hj.symm
  have hN5 : Nt W5 b mb nodes n f VV L m := ⟨keep_block hk5 hN2.blk (by have := hne.out; simp; omega), own_keep hN2.own hk5 (fun j hj => by have := hne.out; have := hlg j hj; simp; omega), hN2.map.keep hk5 (by have := hne.out; simp; omega), hN2.mb⟩
  have hb5 : Below w.heap.size w W5 := hb2.trans (hk5.below (by rw [hz2]; omega) (fun x hx => by simp at hx; have := hxb.out; omega))
  obtain ⟨cs5, hblk5, hcs5, hle5, hval5⟩ := hB5
  obtain ⟨BO, hBO⟩ : ∃ BO, Hid (Obj.cells cs5 5 (bcap, bcap + 1) = BO) := ⟨_, Lib.hid rfl⟩
  have HCV : Hid (∀ W : World, W.heap[xb]? = some BO → (convert 71 9 (.slice (some ⟨xb, 0, none⟩) p3.size bcap)).run Try.prog W = .ok (.string s2) W) := Lib.hid fun W hW => by
    rw [← hBO.out] at hW
    have hlen : (p3.data.toList.set k (UInt8.ofNat z)).length = p3.size := by rw [List.length_set]; rfl
    have h := run_convert_bytes_back (P := Try.prog) W 71 9 5 ⟨xb, 0, none⟩ bcap (p3.data.toList.set k (UInt8.ofNat z)) (by kernel_rfl) (by kernel_rfl) (by kernel_rfl) (fun j hj => by
      have hadd : (⟨xb, 0, none⟩ : Addr).add j = ⟨xb, j, none⟩ := by unfold Addr.add; split <;> simp_all
      rw [hadd, cell_of_row _ _ _ _ _ _ hW, hval5 j (by rw [← hlen]; exact hj), List.getElem_set]
      have hjl : j < p3.data.toList.length := by simpa using hj
      by_cases e : j = k
      · subst e
        have := hz8.out
        simp [UInt8.toNat_ofNat']
        omega
      · have e2 : ¬ k = j := fun h => e h.symm
        simp only [e, e2, if_false, byteAt]
        rw [List.getD_eq_getElem?_getD, List.getElem?_eq_getElem hjl]
        rfl)
    rw [hlen] at h
    rw [h, ← hs2.out, spB, hz.out]
  rw [hBO.out] at hblk5
  rw [HV.out] at hN5
  have hS0 : SpW b mb nodes n f g cap m L (ix * 4) s2 xb BO false false W5.drew := ⟨hN5.below (below_drewN 1 W5), hblk5, hne.out.1, hne.out.2.2.2.2⟩
  have HFIN : Hid (∀ W, SpW b mb nodes n f g cap m L (ix * 4) s2 xb BO true true W → Keep [g] W5.drew W → GoesN b mb nodes n f VV (spL L (ix * 4) s2 true true) m w W) := Lib.hid fun W hS hk => by
    have h0 : Keep [g] w W := ((Keep.of_below hb5).trans (.of_below (below_drewN 1 W5))).trans hk
    exact ⟨VV, by rw [HV.out]; exact hS.nt, h0.mono (by rw [HV.out]; simp [Value.ownBlock]), .inl rfl⟩
  clear hB hz2 hb2 hbc hbf hk5 hN2 hlg hN5 hb5 hblk5 hcs5 hle5 hval5 c2 qs qq
  refine wp_region_done (fun d => SpW b mb nodes n f g cap m L (ix * 4) s2 xb BO (d 14) (d 17)) (fun u v => Keep [g] u v) (fun k u v => (k = 14 → (fun u v => Keep [g] u v) u v) ∧ (k = 17 → (fun u v => Keep [g] u v) u v) ∧ (¬ k = 14 → ¬ k = 17 → (fun u v => Below u.heap.size u v) u v)) (fun a i => match i with
      | 0 => (fun v _ => v = .pointer (some ⟨b, 0, none⟩))
      | 1 => (fun v _ => v = .pointer (some ⟨b, 0, none⟩))
      | 2 => (fun v _ => v = .pointer (some ⟨b, 2, none⟩))
      | 3 => (fun v _ => v = .slice (some ⟨g, 0, none⟩) m cap)
      | 4 => (fun v _ => v = .int .i64 (ix : Int))
      | 5 => (fun v _ => v = .pointer (some ⟨b, 0, none⟩))
      | 6 => (fun v _ => v = .pointer (some ⟨b, 0, none⟩))
      | 7 => (fun v _ => v = .pointer (some ⟨b, 2, none⟩))
      | 8 => (fun v _ => v = .slice (some ⟨g, 0, none⟩) m cap)
      | 9 => (fun v _ => v = .int .i64 (ix : Int))
      | 10 => (fun v _ => v = .slice (some ⟨xb, 0, none⟩) p3.size bcap)
      | 11 => (fun v _ => v = .string s2)
      | 12 => (fun v _ => v = .pointer (some ⟨g, ix * 4, none⟩))
      | 13 => (fun v _ => v = .pointer (some ⟨g, ix * 4 + 2, none⟩))
      | 14 => (fun v W => True)
      | 15 => (fun v _ => v = .pointer (some ⟨g, ix * 4, none⟩))
      | 16 => (fun v _ => v = .pointer (some ⟨g, ix * 4 + 3, none⟩))
      | 17 => (fun v W => True)
      | _ => (fun _ _ => True)) #[0, 1, 3, 7, 0, 0, 32, 96, 224, 0, 0, 1024, 3583, 7679, 15871, 32767, 65535, 131071] #[0, 1, 2, 4, 0, 0, 32, 64, 128, 0, 0, 1024, 24, 4096, 10240, 768, 32768, 65536] 262143 (by kernel_rfl) 18 rfl (fun m hm => by subst hm; kernel_rfl) (by kernel_rfl) (fun w => Keep.refl _ w) (fun u v w h1 h2 => h1.trans h2) ?_ ?_ (hS0) ?_ ?_
  · intro k u v hk hr
    by_cases hs14 : k = 14
    · have h := hr.1 hs14; exact h
    by_cases hs17 : k = 17
    · have h := hr.2.1 hs17; exact h
    have h := hr.2.2 hs14 hs17; exact Keep.of_below h
  · intro i hi
    rcases (by omega : i = 0 ∨ i = 1 ∨ i = 2 ∨ i = 3 ∨ i = 4 ∨ i = 5 ∨ i = 6 ∨ i = 7 ∨ i = 8 ∨ i = 9 ∨ i = 10 ∨ i = 11 ∨ i = 12 ∨ i = 13 ∨ i = 14 ∨ i = 15 ∨ i = 16 ∨ i = 17) with rfl | rfl | rfl | rfl | rfl | rfl | rfl | rfl | rfl | rfl | rfl | rfl | rfl | rfl | rfl | rfl | rfl | rfl
    · intro k hk y hy hyt v w w' h hr
      exact h
    · intro k hk y hy hyt v w w' h hr
      exact h
    · intro k hk y hy hyt v w w' h hr
      exact h
    · intro k hk y hy hyt v w w' h hr
      exact h
    · intro k hk y hy hyt v w w' h hr
      exact h
    · intro k hk y hy hyt v w w' h hr
      exact h
    · intro k hk y hy hyt v w w' h hr
      exact h
    · intro k hk y hy hyt v w w' h hr
      exact h
    · intro k hk y hy hyt v w w' h hr
      exact h
    · intro k hk y hy hyt v w w' h hr
      exact h
    · intro k hk y hy hyt v w w' h hr
      exact h
    · intro k hk y hy hyt v w w' h hr
      exact h
    · intro k hk y hy hyt v w w' h hr
      exact h
    · intro k hk y hy hyt v w w' h hr
      exact h
    · intro k hk y hy hyt v w w' h hr
      by_cases hs14 : k = 14
      · have hr0 := hr.1 hs14
        subst hs14
        exact absurd (hy.trans hyt) (ne_true_of_eq_false (by kernel_rfl))
      by_cases hs17 : k = 17
      · have hr0 := hr.2.1 hs17
        subst hs17
        exact (fun (h : _) (hr : _) => by exact trivial) h hr0
      have hr := hr.2.2 hs14 hs17
      exact trivial
    · intro k hk y hy hyt v w w' h hr
      exact h
    · intro k hk y hy hyt v w w' h hr
      exact h
    · intro k hk y hy hyt v w w' h hr
      by_cases hs14 : k = 14
      · have hr0 := hr.1 hs14
        subst hs14
        exact absurd (hy.trans hyt) (ne_true_of_eq_false (by kernel_rfl))
      by_cases hs17 : k = 17
      · have hr0 := hr.2.1 hs17
        subst hs17
        exact absurd (hy.trans hyt) (ne_true_of_eq_false (by kernel_rfl))
      have hr := hr.2.2 hs14 hs17
      exact trivial
  · intro i hi
    rcases (by omega : i = 0 ∨ i = 1 ∨ i = 2 ∨ i = 3 ∨ i = 4 ∨ i = 5 ∨ i = 6 ∨ i = 7 ∨ i = 8 ∨ i = 9 ∨ i = 10 ∨ i = 11 ∨ i = 12 ∨ i = 13 ∨ i = 14 ∨ i = 15 ∨ i = 16 ∨ i = 17) with rfl | rfl | rfl | rfl | rfl | rfl | rfl | rfl | rfl | rfl | rfl | rfl | rfl | rfl | rfl | rfl | rfl | rfl
    · -- 0: Op.move (Operand.tmp 0)
      intro l hl vs W dn e1 e2 e3 hS hR hp
      have f14 : dn 14 = false := e3 14 (by kernel_rfl)
      have f17 : dn 17 = false := e3 17 (by kernel_rfl)
      replace hS : (SpW b mb nodes n f g cap m L (ix * 4) s2 xb BO (dn 14) (dn 17)) W := hS
      rw [f14, f17] at hS
      have g14 : (dn 14 || ((0 : Nat) == 14)) = false := by rw [f14]; rfl
      have g17 : (dn 17 || ((0 : Nat) == 17)) = false := by rw [f17]; rfl
      refine OpGoal.imp (S1 := SpW b mb nodes n f g cap m L (ix * 4) s2 xb BO false false) (fun W' h => ?_) ?_
      · show (SpW b mb nodes n f g cap m L (ix * 4) s2 xb BO (dn 14 || ((0 : Nat) == 14)) (dn 17 || ((0 : Nat) == 17))) W'
        rw [g14, g17]
        exact h
      clear g14 g17 e1 e2 e3
      obtain rfl : l = [] := hl.symm.trans (by kernel_rfl)
      clear hp hl
      refine opgoal (_) (some 60) rfl rfl fun K hK => ?_
      refine Runs.mk ?_
      simp only [putAll]
      go_simp
      refine hK _ _ ?_ hS ⟨fun h => absurd h (by decide), fun h => absurd h (by decide), fun h14 h17 => ((fun w => Below.refl _ w) W)⟩ _ rfl rfl
      first | rfl | go_simp | simp
    · -- 1: Op.nilCheck (Operand.tmp 60)
      intro l hl vs W dn e1 e2 e3 hS hR hp
      have f14 : dn 14 = false := e3 14 (by kernel_rfl)
      have f17 : dn 17 = false := e3 17 (by kernel_rfl)
      replace hS : (SpW b mb nodes n f g cap m L (ix * 4) s2 xb BO (dn 14) (dn 17)) W := hS
      rw [f14, f17] at hS
      have g14 : (dn 14 || ((1 : Nat) == 14)) = false := by rw [f14]; rfl
      have g17 : (dn 17 || ((1 : Nat) == 17)) = false := by rw [f17]; rfl
      refine OpGoal.imp (S1 := SpW b mb nodes n f g cap m L (ix * 4) s2 xb BO false false) (fun W' h => ?_) ?_
      · show (SpW b mb nodes n f g cap m L (ix * 4) s2 xb BO (dn 14 || ((1 : Nat) == 14)) (dn 17 || ((1 : Nat) == 17))) W'
        rw [g14, g17]
        exact h
      clear g14 g17 e1 e2 e3
      obtain rfl : l = [(0, 60)] := hl.symm.trans (by kernel_rfl)
      have p0 : vs 0 = _ := hp 0 (by decide) (by decide)
      clear hp hl
      refine opgoal (_) (some 61) rfl rfl fun K hK => ?_
      refine Runs.mk ?_
      simp only [putAll]
      go_simp
      refine hK _ _ ?_ hS ⟨fun h => absurd h (by decide), fun h => absurd h (by decide), fun h14 h17 => ((fun w => Below.refl _ w) W)⟩ _ rfl rfl
      first | rfl | go_simp | simp
    · -- 2: Op.fieldAddr 106 (Operand.tmp 61) 1
      intro l hl vs W dn e1 e2 e3 hS hR hp
      have f14 : dn 14 = false := e3 14 (by kernel_rfl)
      have f17 : dn 17 = false := e3 17 (by kernel_rfl)
      replace hS : (SpW b mb nodes n f g cap m L (ix * 4) s2 xb BO (dn 14) (dn 17)) W := hS
      rw [f14, f17] at hS
      have g14 : (dn 14 || ((2 : Nat) == 14)) = false := by rw [f14]; rfl
      have g17 : (dn 17 || ((2 : Nat) == 17)) = false := by rw [f17]; rfl
      refine OpGoal.imp (S1 := SpW b mb nodes n f g cap m L (ix * 4) s2 xb BO false false) (fun W' h => ?_) ?_
      · show (SpW b mb nodes n f g cap m L (ix * 4) s2 xb BO (dn 14 || ((2 : Nat) == 14)) (dn 17 || ((2 : Nat) == 17))) W'
        rw [g14, g17]
        exact h
      clear g14 g17 e1 e2 e3
      obtain rfl : l = [(0, 60), (1, 61)] := hl.symm.trans (by kernel_rfl)
      have p1 : vs 1 = _ := hp 1 (by decide) (by decide)
      clear hp hl
      refine opgoal (_) (some 62) rfl rfl fun K hK => ?_
      refine Runs.mk ?_
      simp only [putAll]
      go_simp
      refine hK _ _ ?_ hS ⟨fun h => absurd h (by decide), fun h => absurd h (by decide), fun h14 h17 => ((fun w => Below.refl _ w) W)⟩ _ rfl rfl
      first | rfl | go_simp | simp
    · -- 3: Op.load 22 (Operand.tmp 62)
      intro l hl vs W dn e1 e2 e3 hS hR hp
      have f14 : dn 14 = false := e3 14 (by kernel_rfl)
      have f17 : dn 17 = false := e3 17 (by kernel_rfl)
      replace hS : (SpW b mb nodes n f g cap m L (ix * 4) s2 xb BO (dn 14) (dn 17)) W := hS
      rw [f14, f17] at hS
      have g14 : (dn 14 || ((3 : Nat) == 14)) = false := by rw [f14]; rfl
      have g17 : (dn 17 || ((3 : Nat) == 17)) = false := by rw [f17]; rfl
      refine OpGoal.imp (S1 := SpW b mb nodes n f g cap m L (ix * 4) s2 xb BO false false) (fun W' h => ?_) ?_
      · show (SpW b mb nodes n f g cap m L (ix * 4) s2 xb BO (dn 14 || ((3 : Nat) == 14)) (dn 17 || ((3 : Nat) == 17))) W'
        rw [g14, g17]
        exact h
      clear g14 g17 e1 e2 e3
      obtain rfl : l = [(0, 60), (1, 61), (2, 62)] := hl.symm.trans (by kernel_rfl)
      have p2 : vs 2 = _ := hp 2 (by decide) (by decide)
      clear hp hl
      refine opgoal (_) (some 63) rfl rfl fun K hK => ?_
      have hc1 := hS.cells.1
      refine Runs.mk ?_
      simp only [putAll]
      go_simp
      refine hK _ _ ?_ hS ⟨fun h => absurd h (by decide), fun h => absurd h (by decide), fun h14 h17 => ((fun w => Below.refl _ w) W)⟩ _ rfl rfl
      first | rfl | go_simp | simp
    · -- 4: Op.move (Operand.tmp 1)
      intro l hl vs W dn e1 e2 e3 hS hR hp
      have f14 : dn 14 = false := e3 14 (by kernel_rfl)
      have f17 : dn 17 = false := e3 17 (by kernel_rfl)
      replace hS : (SpW b mb nodes n f g cap m L (ix * 4) s2 xb BO (dn 14) (dn 17)) W := hS
      rw [f14, f17] at hS
      have g14 : (dn 14 || ((4 : Nat) == 14)) = false := by rw [f14]; rfl
      have g17 : (dn 17 || ((4 : Nat) == 17)) = false := by rw [f17]; rfl
      refine OpGoal.imp (S1 := SpW b mb nodes n f g cap m L (ix * 4) s2 xb BO false false) (fun W' h => ?_) ?_
      · show (SpW b mb nodes n f g cap m L (ix * 4) s2 xb BO (dn 14 || ((4 : Nat) == 14)) (dn 17 || ((4 : Nat) == 17))) W'
        rw [g14, g17]
        exact h
      clear g14 g17 e1 e2 e3
      obtain rfl : l = [] := hl.symm.trans (by kernel_rfl)
      clear hp hl
      refine opgoal (_) (some 64) rfl rfl fun K hK => ?_
      refine Runs.mk ?_
      simp only [putAll]
      go_simp
      refine hK _ _ ?_ hS ⟨fun h => absurd h (by decide), fun h => absurd h (by decide), fun h14 h17 => ((fun w => Below.refl _ w) W)⟩ _ rfl rfl
      first | rfl | go_simp | simp
    · -- 5: Op.move (Operand.tmp 0)
      intro l hl vs W dn e1 e2 e3 hS hR hp
      have f14 : dn 14 = false := e3 14 (by kernel_rfl)
      have f17 : dn 17 = false := e3 17 (by kernel_rfl)
      replace hS : (SpW b mb nodes n f g cap m L (ix * 4) s2 xb BO (dn 14) (dn 17)) W := hS
      rw [f14, f17] at hS
      have g14 : (dn 14 || ((5 : Nat) == 14)) = false := by rw [f14]; rfl
      have g17 : (dn 17 || ((5 : Nat) == 17)) = false := by rw [f17]; rfl
      refine OpGoal.imp (S1 := SpW b mb nodes n f g cap m L (ix * 4) s2 xb BO false false) (fun W' h => ?_) ?_
      · show (SpW b mb nodes n f g cap m L (ix * 4) s2 xb BO (dn 14 || ((5 : Nat) == 14)) (dn 17 || ((5 : Nat) == 17))) W'
        rw [g14, g17]
        exact h
      clear g14 g17 e1 e2 e3
      obtain rfl : l = [] := hl.symm.trans (by kernel_rfl)
      clear hp hl
      refine opgoal (_) (some 65) rfl rfl fun K hK => ?_
      refine Runs.mk ?_
      simp only [putAll]
      go_simp
      refine hK _ _ ?_ hS ⟨fun h => absurd h (by decide), fun h => absurd h (by decide), fun h14 h17 => ((fun w => Below.refl _ w) W)⟩ _ rfl rfl
      first | rfl | go_simp | simp
    · -- 6: Op.nilCheck (Operand.tmp 65)
      intro l hl vs W dn e1 e2 e3 hS hR hp
      have f14 : dn 14 = false := e3 14 (by kernel_rfl)
      have f17 : dn 17 = false := e3 17 (by kernel_rfl)
      replace hS : (SpW b mb nodes n f g cap m L (ix * 4) s2 xb BO (dn 14) (dn 17)) W := hS
      rw [f14, f17] at hS
      have g14 : (dn 14 || ((6 : Nat) == 14)) = false := by rw [f14]; rfl
      have g17 : (dn 17 || ((6 : Nat) == 17)) = false := by rw [f17]; rfl
      refine OpGoal.imp (S1 := SpW b mb nodes n f g cap m L (ix * 4) s2 xb BO false false) (fun W' h => ?_) ?_
      · show (SpW b mb nodes n f g cap m L (ix * 4) s2 xb BO (dn 14 || ((6 : Nat) == 14)) (dn 17 || ((6 : Nat) == 17))) W'
        rw [g14, g17]
        exact h
      clear g14 g17 e1 e2 e3
      obtain rfl : l = [(5, 65)] := hl.symm.trans (by kernel_rfl)
      have p5 : vs 5 = _ := hp 5 (by decide) (by decide)
      clear hp hl
      refine opgoal (_) (some 66) rfl rfl fun K hK => ?_
      refine Runs.mk ?_
      simp only [putAll]
      go_simp
      refine hK _ _ ?_ hS ⟨fun h => absurd h (by decide), fun h => absurd h (by decide), fun h14 h17 => ((fun w => Below.refl _ w) W)⟩ _ rfl rfl
      first | rfl | go_simp | simp
    · -- 7: Op.fieldAddr 106 (Operand.tmp 66) 1
      intro l hl vs W dn e1 e2 e3 hS hR hp
      have f14 : dn 14 = false := e3 14 (by kernel_rfl)
      have f17 : dn 17 = false := e3 17 (by kernel_rfl)
      replace hS : (SpW b mb nodes n f g cap m L (ix * 4) s2 xb BO (dn 14) (dn 17)) W := hS
      rw [f14, f17] at hS
      have g14 : (dn 14 || ((7 : Nat) == 14)) = false := by rw [f14]; rfl
      have g17 : (dn 17 || ((7 : Nat) == 17)) = false := by rw [f17]; rfl
      refine OpGoal.imp (S1 := SpW b mb nodes n f g cap m L (ix * 4) s2 xb BO false false) (fun W' h => ?_) ?_
      · show (SpW b mb nodes n f g cap m L (ix * 4) s2 xb BO (dn 14 || ((7 : Nat) == 14)) (dn 17 || ((7 : Nat) == 17))) W'
        rw [g14, g17]
        exact h
      clear g14 g17 e1 e2 e3
      obtain rfl : l = [(5, 65), (6, 66)] := hl.symm.trans (by kernel_rfl)
      have p6 : vs 6 = _ := hp 6 (by decide) (by decide)
      clear hp hl
      refine opgoal (_) (some 67) rfl rfl fun K hK => ?_
      refine Runs.mk ?_
      simp only [putAll]
      go_simp
      refine hK _ _ ?_ hS ⟨fun h => absurd h (by decide), fun h => absurd h (by decide), fun h14 h17 => ((fun w => Below.refl _ w) W)⟩ _ rfl rfl
      first | rfl | go_simp | simp
    · -- 8: Op.load 22 (Operand.tmp 67)
      intro l hl vs W dn e1 e2 e3 hS hR hp
      have f14 : dn 14 = false := e3 14 (by kernel_rfl)
      have f17 : dn 17 = false := e3 17 (by kernel_rfl)
      replace hS : (SpW b mb nodes n f g cap m L (ix * 4) s2 xb BO (dn 14) (dn 17)) W := hS
      rw [f14, f17] at hS
      have g14 : (dn 14 || ((8 : Nat) == 14)) = false := by rw [f14]; rfl
      have g17 : (dn 17 || ((8 : Nat) == 17)) = false := by rw [f17]; rfl
      refine OpGoal.imp (S1 := SpW b mb nodes n f g cap m L (ix * 4) s2 xb BO false false) (fun W' h => ?_) ?_
      · show (SpW b mb nodes n f g cap m L (ix * 4) s2 xb BO (dn 14 || ((8 : Nat) == 14)) (dn 17 || ((8 : Nat) == 17))) W'
        rw [g14, g17]
        exact h
      clear g14 g17 e1 e2 e3
      obtain rfl : l = [(5, 65), (6, 66), (7, 67)] := hl.symm.trans (by kernel_rfl)
      have p7 : vs 7 = _ := hp 7 (by decide) (by decide)
      clear hp hl
      refine opgoal (_) (some 68) rfl rfl fun K hK => ?_
      have hc1 := hS.cells.1
      refine Runs.mk ?_
      simp only [putAll]
      go_simp
      refine hK _ _ ?_ hS ⟨fun h => absurd h (by decide), fun h => absurd h (by decide), fun h14 h17 => ((fun w => Below.refl _ w) W)⟩ _ rfl rfl
      first | rfl | go_simp | simp
    · -- 9: Op.move (Operand.tmp 1)
      intro l hl vs W dn e1 e2 e3 hS hR hp
      have f14 : dn 14 = dn 14 := rfl
      have f17 : dn 17 = false := e3 17 (by kernel_rfl)
      replace hS : (SpW b mb nodes n f g cap m L (ix * 4) s2 xb BO (dn 14) (dn 17)) W := hS
      rw [f17] at hS
      have g14 : (dn 14 || ((9 : Nat) == 14)) = dn 14 := Bool.or_false _
      have g17 : (dn 17 || ((9 : Nat) == 17)) = false := by rw [f17]; rfl
      refine OpGoal.imp (S1 := SpW b mb nodes n f g cap m L (ix * 4) s2 xb BO (dn 14) false) (fun W' h => ?_) ?_
      · show (SpW b mb nodes n f g cap m L (ix * 4) s2 xb BO (dn 14 || ((9 : Nat) == 14)) (dn 17 || ((9 : Nat) == 17))) W'
        rw [g14, g17]
        exact h
      clear g14 g17 e1 e2 e3
      obtain rfl : l = [] := hl.symm.trans (by kernel_rfl)
      clear hp hl
      refine opgoal (_) (some 69) rfl rfl fun K hK => ?_
      refine Runs.mk ?_
      simp only [putAll]
      go_simp
      refine hK _ _ ?_ hS ⟨fun h => absurd h (by decide), fun h => absurd h (by decide), fun h14 h17 => ((fun w => Below.refl _ w) W)⟩ _ rfl rfl
      first | rfl | go_simp | simp
    · -- 10: Op.move (Operand.tmp 9)
      intro l hl vs W dn e1 e2 e3 hS hR hp
      have f14 : dn 14 = false := e3 14 (by kernel_rfl)
      have f17 : dn 17 = false := e3 17 (by kernel_rfl)
      replace hS : (SpW b mb nodes n f g cap m L (ix * 4) s2 xb BO (dn 14) (dn 17)) W := hS
      rw [f14, f17] at hS
      have g14 : (dn 14 || ((10 : Nat) == 14)) = false := by rw [f14]; rfl
      have g17 : (dn 17 || ((10 : Nat) == 17)) = false := by rw [f17]; rfl
      refine OpGoal.imp (S1 := SpW b mb nodes n f g cap m L (ix * 4) s2 xb BO false false) (fun W' h => ?_) ?_
      · show (SpW b mb nodes n f g cap m L (ix * 4) s2 xb BO (dn 14 || ((10 : Nat) == 14)) (dn 17 || ((10 : Nat) == 17))) W'
        rw [g14, g17]
        exact h
      clear g14 g17 e1 e2 e3
      obtain rfl : l = [] := hl.symm.trans (by kernel_rfl)
      clear hp hl
      refine opgoal (_) (some 70) rfl rfl fun K hK => ?_
      refine Runs.mk ?_
      simp only [putAll]
      go_simp
      refine hK _ _ ?_ hS ⟨fun h => absurd h (by decide), fun h => absurd h (by decide), fun h14 h17 => ((fun w => Below.refl _ w) W)⟩ _ rfl rfl
      first | rfl | go_simp | simp
    · -- 11: Op.convert 71 9 (Operand.tmp 70)
      intro l hl vs W dn e1 e2 e3 hS hR hp
      have f14 : dn 14 = false := e3 14 (by kernel_rfl)
      have f17 : dn 17 = false := e3 17 (by kernel_rfl)
      replace hS : (SpW b mb nodes n f g cap m L (ix * 4) s2 xb BO (dn 14) (dn 17)) W := hS
      rw [f14, f17] at hS
      have g14 : (dn 14 || ((11 : Nat) == 14)) = false := by rw [f14]; rfl
      have g17 : (dn 17 || ((11 : Nat) == 17)) = false := by rw [f17]; rfl
      refine OpGoal.imp (S1 := SpW b mb nodes n f g cap m L (ix * 4) s2 xb BO false false) (fun W' h => ?_) ?_
      · show (SpW b mb nodes n f g cap m L (ix * 4) s2 xb BO (dn 14 || ((11 : Nat) == 14)) (dn 17 || ((11 : Nat) == 17))) W'
        rw [g14, g17]
        exact h
      clear g14 g17 e1 e2 e3
      obtain rfl : l = [(10, 70)] := hl.symm.trans (by kernel_rfl)
      have p10 : vs 10 = _ := hp 10 (by decide) (by decide)
      clear hp hl
      refine opgoal (_) (some 71) rfl rfl fun K hK => ?_
      have hcv := HCV.out W hS.by_
      refine Runs.mk ?_
      simp only [putAll]
      go_simp
      refine hK _ _ ?_ hS ⟨fun h => absurd h (by decide), fun h => absurd h (by decide), fun h14 h17 => ((fun w => Below.refl _ w) W)⟩ _ rfl rfl
      first | rfl | go_simp | simp
    · -- 12: Op.indexAddr 22 (Operand.tmp 63) (Operand.tmp 64)
      intro l hl vs W dn e1 e2 e3 hS hR hp
      have f14 : dn 14 = false := e3 14 (by kernel_rfl)
      have f17 : dn 17 = false := e3 17 (by kernel_rfl)
      replace hS : (SpW b mb nodes n f g cap m L (ix * 4) s2 xb BO (dn 14) (dn 17)) W := hS
      rw [f14, f17] at hS
      have g14 : (dn 14 || ((12 : Nat) == 14)) = false := by rw [f14]; rfl
      have g17 : (dn 17 || ((12 : Nat) == 17)) = false := by rw [f17]; rfl
      refine OpGoal.imp (S1 := SpW b mb nodes n f g cap m L (ix * 4) s2 xb BO false false) (fun W' h => ?_) ?_
      · show (SpW b mb nodes n f g cap m L (ix * 4) s2 xb BO (dn 14 || ((12 : Nat) == 14)) (dn 17 || ((12 : Nat) == 17))) W'
        rw [g14, g17]
        exact h
      clear g14 g17 e1 e2 e3
      obtain rfl : l = [(0, 60), (1, 61), (2, 62), (3, 63), (4, 64), (5, 65), (6, 66), (7, 67), (8, 68), (10, 70), (11, 71)] := hl.symm.trans (by kernel_rfl)
      have p3 : vs 3 = _ := hp 3 (by decide) (by decide)
      have p4 : vs 4 = _ := hp 4 (by decide) (by decide)
      clear hp hl
      refine opgoal (_) (some 72) rfl rfl fun K hK => ?_
      have hik := HIX.out
      refine Runs.mk ?_
      simp only [putAll]
      go_simp
      refine hK _ _ ?_ hS ⟨fun h => absurd h (by decide), fun h => absurd h (by decide), fun h14 h17 => ((fun w => Below.refl _ w) W)⟩ _ rfl rfl
      first | rfl | go_simp | simp
    · -- 13: Op.fieldAddr 29 (Operand.tmp 72) 2
      intro l hl vs W dn e1 e2 e3 hS hR hp
      have f14 : dn 14 = false := e3 14 (by kernel_rfl)
      have f17 : dn 17 = false := e3 17 (by kernel_rfl)
      replace hS : (SpW b mb nodes n f g cap m L (ix * 4) s2 xb BO (dn 14) (dn 17)) W := hS
      rw [f14, f17] at hS
      have g14 : (dn 14 || ((13 : Nat) == 14)) = false := by rw [f14]; rfl
      have g17 : (dn 17 || ((13 : Nat) == 17)) = false := by rw [f17]; rfl
      refine OpGoal.imp (S1 := SpW b mb nodes n f g cap m L (ix * 4) s2 xb BO false false) (fun W' h => ?_) ?_
      · show (SpW b mb nodes n f g cap m L (ix * 4) s2 xb BO (dn 14 || ((13 : Nat) == 14)) (dn 17 || ((13 : Nat) == 17))) W'
        rw [g14, g17]
        exact h
      clear g14 g17 e1 e2 e3
      obtain rfl : l = [(0, 60), (1, 61), (2, 62), (3, 63), (4, 64), (5, 65), (6, 66), (7, 67), (8, 68), (10, 70), (11, 71), (12, 72)] := hl.symm.trans (by kernel_rfl)
      have p12 : vs 12 = _ := hp 12 (by decide) (by decide)
      clear hp hl
      refine opgoal (_) (some 73) rfl rfl fun K hK => ?_
      refine Runs.mk ?_
      simp only [putAll]
      go_simp
      refine hK _ _ ?_ hS ⟨fun h => absurd h (by decide), fun h => absurd h (by decide), fun h14 h17 => ((fun w => Below.refl _ w) W)⟩ _ rfl rfl
      first | rfl | go_simp | simp
    · -- 14: Op.store 9 (Operand.tmp 73) (Operand.tmp 71)
      intro l hl vs W dn e1 e2 e3 hS hR hp
      have f14 : dn 14 = false := e1
      have f17 : dn 17 = false := e3 17 (by kernel_rfl)
      replace hS : (SpW b mb nodes n f g cap m L (ix * 4) s2 xb BO (dn 14) (dn 17)) W := hS
      rw [f14, f17] at hS
      have g14 : (dn 14 || ((14 : Nat) == 14)) = true := by rw [f14]; rfl
      have g17 : (dn 17 || ((14 : Nat) == 17)) = false := by rw [f17]; rfl
      refine OpGoal.imp (S1 := SpW b mb nodes n f g cap m L (ix * 4) s2 xb BO true false) (fun W' h => ?_) ?_
      · show (SpW b mb nodes n f g cap m L (ix * 4) s2 xb BO (dn 14 || ((14 : Nat) == 14)) (dn 17 || ((14 : Nat) == 17))) W'
        rw [g14, g17]
        exact h
      clear g14 g17 e1 e2 e3
      obtain rfl : l = [(0, 60), (1, 61), (2, 62), (3, 63), (4, 64), (5, 65), (6, 66), (7, 67), (8, 68), (10, 70), (11, 71), (12, 72), (13, 73)] := hl.symm.trans (by kernel_rfl)
      have p11 : vs 11 = _ := hp 11 (by decide) (by decide)
      have p13 : vs 13 = _ := hp 13 (by decide) (by decide)
      clear hp hl
      refine opgoal (_) (none) rfl rfl fun K hK => ?_
      obtain ⟨-, ⟨u2, hu2⟩, -, hf2, -⟩ := hS.cells
      refine Runs.mk ?_
      simp only [putAll]
      go_simp
      obtain ⟨hs', hk'⟩ := hS.put (q1' := true) (q2' := false) (ix * 4 + 2) (.string s2) (by have := hS.lt; omega) (spL_1 _ _ _ _)
      exact hK undef _ trivial hs' ⟨(fun _ => hk'), (fun h => absurd h (by decide)), fun h1 h2 => absurd rfl h1⟩ _ rfl rfl
    · -- 15: Op.indexAddr 22 (Operand.tmp 68) (Operand.tmp 69)
      intro l hl vs W dn e1 e2 e3 hS hR hp
      have f14 : dn 14 = true := e2 14 (by kernel_rfl)
      have f17 : dn 17 = false := e3 17 (by kernel_rfl)
      replace hS : (SpW b mb nodes n f g cap m L (ix * 4) s2 xb BO (dn 14) (dn 17)) W := hS
      rw [f14, f17] at hS
      have g14 : (dn 14 || ((15 : Nat) == 14)) = true := by rw [f14]; rfl
      have g17 : (dn 17 || ((15 : Nat) == 17)) = false := by rw [f17]; rfl
      refine OpGoal.imp (S1 := SpW b mb nodes n f g cap m L (ix * 4) s2 xb BO true false) (fun W' h => ?_) ?_
      · show (SpW b mb nodes n f g cap m L (ix * 4) s2 xb BO (dn 14 || ((15 : Nat) == 14)) (dn 17 || ((15 : Nat) == 17))) W'
        rw [g14, g17]
        exact h
      clear g14 g17 e1 e2 e3
      obtain rfl : l = [(0, 60), (1, 61), (2, 62), (3, 63), (4, 64), (5, 65), (6, 66), (7, 67), (8, 68), (9, 69), (10, 70), (11, 71), (12, 72), (13, 73)] := hl.symm.trans (by kernel_rfl)
      have p8 : vs 8 = _ := hp 8 (by decide) (by decide)
      have p9 : vs 9 = _ := hp 9 (by decide) (by decide)
      clear hp hl
      refine opgoal (_) (some 74) rfl rfl fun K hK => ?_
      have hik := HIX.out
      refine Runs.mk ?_
      simp only [putAll]
      go_simp
      refine hK _ _ ?_ hS ⟨fun h => absurd h (by decide), fun h => absurd h (by decide), fun h14 h17 => ((fun w => Below.refl _ w) W)⟩ _ rfl rfl
      first | rfl | go_simp | simp
    · -- 16: Op.fieldAddr 29 (Operand.tmp 74) 3
      intro l hl vs W dn e1 e2 e3 hS hR hp
      have f14 : dn 14 = true := e2 14 (by kernel_rfl)
      have f17 : dn 17 = false := e3 17 (by kernel_rfl)
      replace hS : (SpW b mb nodes n f g cap m L (ix * 4) s2 xb BO (dn 14) (dn 17)) W := hS
      rw [f14, f17] at hS
      have g14 : (dn 14 || ((16 : Nat) == 14)) = true := by rw [f14]; rfl
      have g17 : (dn 17 || ((16 : Nat) == 17)) = false := by rw [f17]; rfl
      refine OpGoal.imp (S1 := SpW b mb nodes n f g cap m L (ix * 4) s2 xb BO true false) (fun W' h => ?_) ?_
      · show (SpW b mb nodes n f g cap m L (ix * 4) s2 xb BO (dn 14 || ((16 : Nat) == 14)) (dn 17 || ((16 : Nat) == 17))) W'
        rw [g14, g17]
        exact h
      clear g14 g17 e1 e2 e3
      obtain rfl : l = [(0, 60), (1, 61), (2, 62), (3, 63), (4, 64), (5, 65), (6, 66), (7, 67), (8, 68), (9, 69), (10, 70), (11, 71), (12, 72), (13, 73), (15, 74)] := hl.symm.trans (by kernel_rfl)
      have p15 : vs 15 = _ := hp 15 (by decide) (by decide)
      clear hp hl
      refine opgoal (_) (some 75) rfl rfl fun K hK => ?_
      refine Runs.mk ?_
      simp only [putAll]
      go_simp
      refine hK _ _ ?_ hS ⟨fun h => absurd h (by decide), fun h => absurd h (by decide), fun h14 h17 => ((fun w => Below.refl _ w) W)⟩ _ rfl rfl
      first | rfl | go_simp | simp
    · -- 17: Op.store 4 (Operand.tmp 75) (Operand.const (Value.bool true))
      intro l hl vs W dn e1 e2 e3 hS hR hp
      have f14 : dn 14 = true := e2 14 (by kernel_rfl)
      have f17 : dn 17 = false := e1
      replace hS : (SpW b mb nodes n f g cap m L (ix * 4) s2 xb BO (dn 14) (dn 17)) W := hS
      rw [f14, f17] at hS
      have g14 : (dn 14 || ((17 : Nat) == 14)) = true := by rw [f14]; rfl
      have g17 : (dn 17 || ((17 : Nat) == 17)) = true := by rw [f17]; rfl
      refine OpGoal.imp (S1 := SpW b mb nodes n f g cap m L (ix * 4) s2 xb BO true true) (fun W' h => ?_) ?_
      · show (SpW b mb nodes n f g cap m L (ix * 4) s2 xb BO (dn 14 || ((17 : Nat) == 14)) (dn 17 || ((17 : Nat) == 17))) W'
        rw [g14, g17]
        exact h
      clear g14 g17 e1 e2 e3
      obtain rfl : l = [(0, 60), (1, 61), (2, 62), (3, 63), (4, 64), (5, 65), (6, 66), (7, 67), (8, 68), (9, 69), (10, 70), (11, 71), (12, 72), (13, 73), (15, 74), (16, 75)] := hl.symm.trans (by kernel_rfl)
      have p16 : vs 16 = _ := hp 16 (by decide) (by decide)
      clear hp hl
      refine opgoal (_) (none) rfl rfl fun K hK => ?_
      obtain ⟨-, -, ⟨u3, hu3⟩, -, hf3⟩ := hS.cells
      refine Runs.mk ?_
      simp only [putAll]
      go_simp
      obtain ⟨hs', hk'⟩ := hS.put (q1' := true) (q2' := true) (ix * 4 + 3) (.bool true) (by have := hS.lt; omega) (spL_2 _ _ _ _)
      exact hK undef _ trivial hs' ⟨(fun h => absurd h (by decide)), (fun _ => hk'), fun h1 h2 => absurd rfl h2⟩ _ rfl rfl
  · intro l hl vs W dn hd hS hR hp
    replace hS : (SpW b mb nodes n f g cap m L (ix * 4) s2 xb BO (dn 14) (dn 17)) W := hS
    rw [hd 14 (by decide), hd 17 (by decide)] at hS
    obtain rfl : l = [(0, 60), (1, 61), (2, 62), (3, 63), (4, 64), (5, 65), (6, 66), (7, 67), (8, 68), (9, 69), (10, 70), (11, 71), (12, 72), (13, 73), (15, 74), (16, 75)] := hl.symm.trans (by kernel_rfl)
    have p0 : vs 0 = _ := hp 0 (by decide) (by decide)
    have p1 : vs 1 = _ := hp 1 (by decide) (by decide)
    have p2 : vs 2 = _ := hp 2 (by decide) (by decide)
    have p3 : vs 3 = _ := hp 3 (by decide) (by decide)
    have p4 : vs 4 = _ := hp 4 (by decide) (by decide)
    have p5 : vs 5 = _ := hp 5 (by decide) (by decide)
    have p6 : vs 6 = _ := hp 6 (by decide) (by decide)
    have p7 : vs 7 = _ := hp 7 (by decide) (by decide)
    have p8 : vs 8 = _ := hp 8 (by decide) (by decide)
    have p9 : vs 9 = _ := hp 9 (by decide) (by decide)
    have p10 : vs 10 = _ := hp 10 (by decide) (by decide)
    have p11 : vs 11 = _ := hp 11 (by decide) (by decide)
    have p12 : vs 12 = _ := hp 12 (by decide) (by decide)
    have p13 : vs 13 = _ := hp 13 (by decide) (by decide)
    have p14 : (fun v W => True) (vs 14) W := hp 14 (by decide) (by decide)
    dsimp only at p14
    have p15 : vs 15 = _ := hp 15 (by decide) (by decide)
    have p16 : vs 16 = _ := hp 16 (by decide) (by decide)
    have p17 : (fun v W => True) (vs 17) W := hp 17 (by decide) (by decide)
    dsimp only at p17
    clear hp hl
    simp only [putAll_mk, setAll, List.setIfInBounds_toArray, List.set_cons_succ, List.set_cons_zero, p0, p1, p2, p3, p4, p5, p6, p7, p8, p9, p10, p11, p12, p13, p15, p16]
    have HS := Lib.hid hS
    have HR := Lib.hid hR
    clear hS hR p14 p17
    go_wp2
    go_ret
    exact ⟨rfl, HFIN.out _ HS.out HR.out⟩

theorem spoil_no (b nodes mb n : Nat) (f : Int → Int → Bool) (v : Value) (L : List Value) (k : Nat) (i x y : Int) (w : World) (h : Nt w b mb nodes n f v L k) (hi : ¬ (0 ≤ i ∧ i < k)) :
    Calls Try.prog 32 #[.pointer (some ⟨b, 0, none⟩), .int .i64 i, .int .i64 x, .int .u8 y] w fun e w' => e = .returned (.int .i64 8) ∧ w = w' := by
  have HT := Lib.hid (there_no b nodes mb n f v L k i w h hi)
  clear h hi
  go_enter Try.func32, Try.ntmps32
  go_wp2_with fail
  refine HT.out.mono ?_
  rintro e w1 ⟨rfl, rfl⟩
  go_wp2
  go_ret
  exact ⟨rfl, rfl⟩
set_option maxHeartbeats 8000000 in
set_option maxRecDepth 100000 in
theorem spoil_bad (b mb nodes n : Nat) (f : Int → Int → Bool) (VV : Value) (Ls : List Pkt) (ix : Nat) (x y : Int) (w : World) (h : Nt w b mb nodes n f VV (Ls.flatMap encP) Ls.length) (hi : ix < Ls.length) (hsm : Ls.length ≤ 256) (hbad : Ls[ix].q = false → x < 0 ∨ (Ls[ix].s.size : Int) ≤ x ∨ y = 0) :
    Calls Try.prog 32 #[.pointer (some ⟨b, 0, none⟩), .int .i64 ix, .int .i64 x, .int .u8 y] w fun e w' => e = .returned (.int .i64 (if Ls[ix].q then 9 else 1)) ∧ w = w' := by
  obtain ⟨g, cap, hv⟩ : ∃ g cap, VV = .slice (some ⟨g, 0, none⟩) Ls.length cap := by
    rcases h.own.2 with ⟨_, hn⟩ | ⟨g, cap, cur, hv, _⟩
    · omega
    · exact ⟨g, cap, hv⟩
  obtain ⟨m, hm⟩ : ∃ m, Ls.length = m := ⟨_, rfl⟩
  have hT := Lib.hid (there_ok b nodes mb n f VV _ m ix w (hm ▸ h) (by omega))
  obtain ⟨⟨p1, p2, p3, p4⟩, hp⟩ : ∃ p : Pkt, Ls[ix] = p := ⟨_, rfl⟩
  rw [hp] at hbad ⊢
  dsimp only at hbad ⊢
  have hown := h.own
  rw [hv, hm] at hown
  obtain ⟨A', c', hv', hrd, -, -⟩ := own_rdE hown encP_len hm
  cases hv'
  obtain ⟨ab, ao, hAe, q0, qa, qs, qq⟩ := pkt_at hrd ix (by omega) hi _ hp
  obtain ⟨rfl, rfl⟩ : g = ab ∧ 0 = ao := by injection hAe with h1; injection h1 with h1 h2; exact ⟨h1, h2⟩
  obtain ⟨c0, c1, c2, f2⟩ := h.cell
  rw [hv, hm] at c2
  dsimp only at q0 qa qs qq
  rw [Nat.zero_add] at q0 qa qs qq
  rw [hm] at hi hsm
  clear h hown hrd hAe c0 c1 f2 hsm hm hp q0 qa hv
  cases p4 with
  | true =>
    clear hbad
    go_enter Try.func32, Try.ntmps32
    go_wp2_with fail
    refine hT.out.mono ?_
    rintro e w1 ⟨rfl, rfl⟩
    go_wp2
    go_ret
    exact ⟨rfl, rfl⟩
  | false =>
    have hbad := hbad rfl
    by_cases h1 : x < 0
    · have hd1 : decide (x < 0) = true := by simpa using h1
      clear hbad h1
      go_enter Try.func32, Try.ntmps32
      go_wp2_with fail
      refine hT.out.mono ?_
      rintro e w1 ⟨rfl, rfl⟩
      go_wp2
      go_ret
      exact ⟨rfl, rfl⟩
    · have hd1 : decide (x < 0) = false := by simpa using h1
      by_cases h2 : (p3.size : Int) ≤ x
      · have hd2 : decide ((p3.size : Int) ≤ x) = true := by simpa using h2
        clear hbad h1 h2
        go_enter Try.func32, Try.ntmps32
        go_wp2_with fail
        refine hT.out.mono ?_
        rintro e w1 ⟨rfl, rfl⟩
        go_wp2
        go_ret
        exact ⟨rfl, rfl⟩
      · have hd2 : decide ((p3.size : Int) ≤ x) = false := by simpa using h2
        obtain rfl : y = 0 := by omega
        clear hbad h1 h2
        go_enter Try.func32, Try.ntmps32
        go_wp2_with fail
        refine hT.out.mono ?_
        rintro e w1 ⟨rfl, rfl⟩
        go_wp2
        go_ret
        exact ⟨rfl, rfl⟩
end Go.Proofs.Ytbdcgfdchkbcnaa.Ne

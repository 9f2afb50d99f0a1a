/- the document's cache: At, Drop. -/
import Derived.Test.YtbdcgfdchkbcnaaCaS
import Derived.Test.YtbdcgfdchkbcnaaD
namespace Go.Proofs.Ytbdcgfdchkbcnaa.Ca
open Go.RowKit Go.Proofs.Ytbdcgfdchkbcnaa.L Go.Proofs.Ytbdcgfdchkbcnaa.O Go.Proofs.Ytbdcgfdchkbcnaa.R Go.Proofs.Ytbdcgfdchkbcnaa.A Go.Proofs.Ytbdcgfdchkbcnaa.S Go.Proofs.Ytbdcgfdchkbcnaa.T Go.Proofs.Ytbdcgfdchkbcnaa.C Go.Proofs.Ytbdcgfdchkbcnaa.G Go.Proofs.Ytbdcgfdchkbcnaa.E Go.Proofs.Ytbdcgfdchkbcnaa.F
set_option linter.unusedVariables false
set_option linter.unusedSimpArgs false

abbrev DT : TypeId := 92
abbrev DE : TypeId := 94
def GoesD (b room : Nat) (v : Value) (L' : List Ent) (w w' : World) : Prop := ∃ v', Ca DT DE w' b room v' L' ∧ Chg b v w v' w'
set_option maxHeartbeats 2000000 in
theorem at_any {T E : TypeId} (b room : Nat) (v : Value) (L : List Ent) (c : Int) (w : World) (h : Ca T E w b room v L) (hsm : L.length ≤ 1000000) :
    Calls Try.prog 58 #[.pointer (some ⟨b, 0, none⟩), .int .i64 c] w fun e w' => e = .returned (.int .i64 (fnd c L)) ∧ w = w' := by
  obtain ⟨A, cp, rfl, hr, _, _⟩ := h.rd
  have hcell := h.cell.2.1
  obtain ⟨n, hn⟩ : ∃ n, L.length = n := ⟨_, rfl⟩
  rw [hn] at hcell hr hsm
  have HR := Lib.hid hr
  have HL := Lib.hid hn
  obtain ⟨r, hres⟩ : ∃ r, Hid (fnd c L = r) := ⟨_, Lib.hid rfl⟩
  have HI := Lib.hid (idx_fnd c L)
  rw [hres.out] at HI ⊢
  clear hr h hn
  go_enter Try.func58, Try.ntmps58
  go_wp2
  go_loopw [5] (fun i wr => ∃ k : Nat, k ≤ n ∧ i = .int .i64 k ∧ w = wr ∧ Hid (∀ j, (h : j < L.length) → j < k → (L[j].1 == c) = false)) (fun i _ => n - (intOf i).toNat)
  case atStart => exact ⟨0, by omega, rfl, rfl, Lib.hid fun j _ h => absurd h (by omega)⟩
  case round =>
    obtain ⟨k, hk, rfl, rfl, hnot⟩ := hrel
    by_cases hlt : k < n
    · have hkl : k < L.length := by have := HL.out; omega
      obtain ⟨⟨z1, z2, z3, z4⟩, hz⟩ : ∃ z : Ent, Hid (L[k] = z) := ⟨_, Lib.hid rfl⟩
      obtain ⟨ab, ao, hA, c0, -, -, -⟩ := ent_at HR.out k hlt hkl _ hz.out
      subst hA
      dsimp only at c0
      by_cases hzc : z1 = c
      · have hd : (z1 == c) = true := by simpa using hzc
        have hd2 : decide (z1 = c) = true := by simpa using hzc
        have er : Hid (r = k) := Lib.hid (by
          rw [← HI.out]
          exact idx_some hkl hnot.out (by rw [hz.out]; exact hd))
        clear hzc
        go_wp2
        go_ret
        exact ⟨reti er.out.symm, rfl⟩
      · have hd : (z1 == c) = false := by simpa using hzc
        have hd2 : decide (z1 = c) = false := by simpa using hzc
        clear hzc
        go_wp2
        go_roundw
        case rel => exact ⟨k + 1, by omega, by go_num, by trivial, Lib.hid fun j hj hjk => by
          by_cases e : j = k
          · subst e; rw [hz.out]; exact hd
          · exact hnot.out j hj (by omega)⟩
        case measure => simp [intOf]; omega
    · have er : Hid (r = -1) := Lib.hid (by
        rw [← HI.out]
        exact idx_none fun j hj => hnot.out j hj (by have := HL.out; omega))
      go_wp2
      go_ret
      exact ⟨reti er.out.symm, rfl⟩
/-- all memory that was there ahead of B, but block b, stays. -/
structure Lo (B b : Nat) (u v : World) : Prop where
  os : v.os = u.os
  tape : v.tape = u.tape
  output : v.output = u.output
  size : u.heap.size ≤ v.heap.size
  block : ∀ k, k < B → k ≠ b → v.heap[k]? = u.heap[k]?
theorem Lo.refl (B b : Nat) (u : World) : Lo B b u u := ⟨rfl, rfl, rfl, Nat.le_refl _, fun _ _ _ => rfl⟩
theorem Lo.trans {B b : Nat} {u v w : World} (h : Lo B b u v) (k : Lo B b v w) : Lo B b u w :=
  ⟨k.os.trans h.os, k.tape.trans h.tape, k.output.trans h.output, Nat.le_trans h.size k.size, fun j hj hb => (k.block j hj hb).trans (h.block j hj hb)⟩
theorem Lo.of {B b : Nat} {u v : World} (h : Below B u v) : Lo B b u v := ⟨h.os, h.tape, h.output, h.size, fun k hk _ => h.block k hk⟩
theorem Lo.set (B b : Nat) (u : World) (x : Value) : Lo B b u (u.setCell ⟨b, 1, none⟩ x) := by
  have hk : Keep [b] u (u.setCell ⟨b, 1, none⟩ x) := (Keep.refl _ _).setCell (p := ⟨b, 1, none⟩) (.inl (by simp)) _
  refine ⟨hk.os, hk.tape, hk.output, hk.size, fun k _ hne => ?_⟩
  by_cases hlt : k < u.heap.size
  · exact hk.block k hlt (by simpa using hne)
  · rw [Array.getElem?_eq_none (by simp; omega), Array.getElem?_eq_none (by omega)]
structure DropS (b room B : Nat) (VV : Value) (L : List Ent) (W : World) : Prop where
  ca : Ca DT DE W b room VV L
  sz : B ≤ W.heap.size
  bb : b < B
  vb : ∀ k, VV.ownBlock = some k → k < B
theorem DropS.cell {b room B : Nat} {VV : Value} {L : List Ent} {W : World} (h : DropS b room B VV L W) : W.cell? ⟨b, 1, none⟩ = some VV := h.ca.cell.2.1
theorem DropS.frz {b room B : Nat} {VV : Value} {L : List Ent} {W : World} (h : DropS b room B VV L W) : W.frozen? ⟨b, 1, none⟩ = false := h.ca.cell.2.2.2
theorem DropS.below {b room B : Nat} {VV : Value} {L : List Ent} {W W' : World} (h : DropS b room B VV L W) (hb : Below W.heap.size W W') : DropS b room B VV L W' := ⟨h.ca.below hb, Nat.le_trans h.sz hb.size, h.bb, h.vb⟩
theorem DropS.lo {b room B : Nat} {VV : Value} {L : List Ent} {W W' : World} (h : DropS b room B VV L W) (hb : Below B W W') : DropS b room B VV L W' := by
  refine ⟨⟨(hb.block b h.bb).trans h.ca.blk, h.ca.own.1, ?_⟩, Nat.le_trans h.sz hb.size, h.bb, h.vb⟩
  rcases h.ca.own.2 with hn | ⟨g, cap, cur, hv, hbg, hgg, rest⟩
  · exact .inl hn
  · exact .inr ⟨g, cap, cur, hv, hbg, (hb.block g (h.vb g (by rw [hv]; rfl))).trans hgg, rest⟩
theorem DropS.fin {b room B n : Nat} {VV v : Value} {L L1 : List Ent} {xs : List Value} {W : World} (h : DropS b room B VV L W) (ho : W.ownsRow B DE 4 v n xs) (h1 : n = L1.length) (h2 : xs = L1.flatMap encE) :
    ∃ v', Ca DT DE (W.setCell ⟨b, 1, none⟩ v) b room v' L1 ∧ ∀ k, v'.ownBlock = some k → B ≤ k := by
  subst h1
  subst h2
  have hk : Keep [b] W (W.setCell ⟨b, 1, none⟩ v) := (Keep.refl _ _).setCell (p := ⟨b, 1, none⟩) (.inl (by simp)) _
  have hbb := h.bb
  refine ⟨v, ⟨(Go.Proofs.Ytbdcgfdchkbcnaa.L.heap_setCell_at W b 1 _ _ _ v h.ca.blk).trans rfl, ?_⟩, fun k hk => (own_lt ho k hk).1⟩
  exact own_base (own_keep ho hk (fun k hk => by have := (own_lt ho k hk).1; simp; omega)) (by omega)
def ddropL (c : Int) (L : List Ent) : List Ent × Bool := match look c L with | some i => (L.eraseIdx i, true) | none => (L, false)
set_option maxHeartbeats 8000000 in
set_option maxRecDepth 100000 in
theorem ddrop_any (b room : Nat) (v : Value) (L : List Ent) (c : Int) (w : World) (h : Ca DT DE w b room v L) (hsm : L.length ≤ 1000000) :
    Calls Try.prog 59 #[.pointer (some ⟨b, 0, none⟩), .int .i64 c] w fun e w' => e = .returned (.bool (ddropL c L).2) ∧ GoesD b room v (ddropL c L).1 w w' := by
  have HAT := Lib.hid (at_any b room v L c w h hsm)
  cases hl : look c L with
  | none =>
    have hp : ddropL c L = (L, false) := by simp [ddropL, hl]
    rw [hp]
    rw [show fnd c L = -1 by simp [fnd, hl]] at HAT
    have HG : Hid (GoesD b room v L w w) := Lib.hid ⟨v, h, Chg.refl _ _ _⟩
    clear h hl hp
    go_enter Try.func59, Try.ntmps59
    go_wp2_with fail
    refine HAT.out.mono ?_
    rintro e w1 ⟨rfl, rfl⟩
    go_wp2
    go_ret
    exact ⟨rfl, HG.out⟩
  | some ix =>
    obtain ⟨hix, -, -⟩ := look_some hl
    have hp : ddropL c L = (L.eraseIdx ix, true) := by simp [ddropL, hl]
    rw [hp]
    rw [show fnd c L = ix by simp [fnd, hl]] at HAT
    obtain ⟨L1, hL1⟩ : ∃ L1, L.eraseIdx ix = L1 := ⟨_, rfl⟩
    rw [hL1]
    obtain ⟨g, vc, hv⟩ : ∃ g vc, v = .slice (some ⟨g, 0, none⟩) L.length vc := by
      rcases h.own.2 with ⟨_, hn⟩ | ⟨g, cap, cur, hv, _⟩
      · omega
      · exact ⟨g, cap, hv⟩
    obtain ⟨n, hn⟩ : ∃ n, L.length = n := ⟨_, rfl⟩
    obtain ⟨VV, hVV'⟩ : ∃ VV, v = VV := ⟨_, rfl⟩
    rw [hn] at hv hsm hix
    have hVV : Hid (VV = .slice (some ⟨g, 0, none⟩) n vc) := Lib.hid (by rw [← hVV']; exact hv)
    rw [hVV'] at h ⊢
    have hown := h.own
    rw [hVV.out, hn] at hown
    obtain ⟨_, hbg, hgw, hnc, hcm, _, hread⟩ := own_some hown
    have hn9 := Lib.hid hsm
    obtain ⟨jx, hj⟩ : ∃ jx, jx = ix + 1 := ⟨_, rfl⟩
    have hwr : Hid (IntKind.i64.wrap ((ix : Int) + 1) = (jx : Int)) := Lib.hid (by rw [IntKind.wrap_i64]; omega)
    obtain ⟨FA, hFAe⟩ : ∃ FA, (L.flatMap encE).take (ix * 4) = FA := ⟨_, rfl⟩
    obtain ⟨FB, hFBe⟩ : ∃ FB, (L.flatMap encE).drop (jx * 4) = FB := ⟨_, rfl⟩
    have hfl := flat_len encE_len L
    have hFA : Hid (FA.length = ix * 4) := Lib.hid (by rw [← hFAe, List.length_take, hfl]; omega)
    have hFB : Hid (FB.length = (n - jx) * 4) := Lib.hid (by rw [← hFBe, List.length_drop, hfl, hn]; omega)
    have hOA : Hid (∀ u ∈ FA, u.oneCell' = true) := Lib.hid fun u hu => one_enc u (by rw [← hFAe] at hu; exact List.mem_of_mem_take hu)
    have hOB : Hid (∀ u ∈ FB, u.oneCell' = true) := Lib.hid fun u hu => one_enc u (by rw [← hFBe] at hu; exact List.mem_of_mem_drop hu)
    obtain ⟨AJ, hAJ0⟩ : ∃ AJ : Addr, (if vc = jx then some (⟨g, 0, none⟩ : Addr) else some ⟨g, jx * 4, none⟩) = some AJ := by
      by_cases h : vc = jx
      · exact ⟨_, by rw [if_pos h]⟩
      · exact ⟨_, by rw [if_neg h]⟩
    have hAJ := Lib.hid hAJ0
    have hRD : ∀ W, DropS b room w.heap.size VV L W → ∀ t u, (L.flatMap encE)[t]? = some u → W.cell? ⟨g, t, none⟩ = some u := fun W hS t u hu => by
      have ho := hS.ca.own
      rw [hVV.out, hn] at ho
      exact (own_some ho).2.2.2.2.2.2 t u hu
    have hLA : Hid (∀ W, DropS b room w.heap.size VV L W → Lies W (some ⟨g, 0, none⟩) FA) := Lib.hid fun W hS h0 => ⟨g, 0, rfl, fun t ht => by
      rw [Nat.zero_add, List.getElem?_eq_getElem ht]
      refine hRD W hS t _ ?_
      rw [← List.getElem?_eq_getElem ht, ← hFAe, List.getElem?_take_of_lt (by have := hFA.out; omega)]⟩
    have hLB : Hid (∀ W, DropS b room w.heap.size VV L W → Lies W (some AJ) FB) := Lib.hid fun W hS h0 => by
      have hne : ¬ vc = jx := fun e => by have := hFB.out; omega
      rw [if_neg hne] at hAJ0
      injection hAJ0 with hAJ0
      subst hAJ0
      refine ⟨g, jx * 4, rfl, fun t ht => ?_⟩
      rw [List.getElem?_eq_getElem ht]
      refine hRD W hS _ _ ?_
      rw [← List.getElem?_eq_getElem ht, ← hFBe, List.getElem?_drop]
    have hE1 : Hid (ix + (n - jx) = L1.length ∧ FA ++ FB = L1.flatMap encE) := Lib.hid (by
      refine ⟨by rw [← hL1, List.length_eraseIdx, hn, if_pos hix]; omega, ?_⟩
      rw [← hFAe, ← hFBe, hj, flat_take encE_len, flat_drop encE_len, ← List.flatMap_append, ← hL1, List.eraseIdx_eq_take_drop_succ])
    have HFIN : Hid (∀ W, (∃ v', Ca DT DE W b room v' L1 ∧ ∀ k, v'.ownBlock = some k → w.heap.size ≤ k) → Lo w.heap.size b w.drew W → GoesD b room VV L1 w W) := Lib.hid fun W hx hk => by
      obtain ⟨v', hc, hv'⟩ := hx
      exact ⟨v', hc, ⟨hk.os, hk.tape, hk.output, hk.size, fun k hlt hne => hk.block k hlt (fun e => hne (by rw [e]; simp))⟩, .inr hv'⟩
    have HS0 : Hid (DropS b room w.heap.size VV L w.drew) := Lib.hid ⟨⟨h.blk, h.own⟩, Nat.le_refl _, h.lt, fun k hk => (h.ne k hk).2⟩
    have hic : ix ≤ vc := by omega
    have hjc : jx ≤ vc := by omega
    have hjn : jx ≤ n := by omega
    clear hRD hAJ0 hfl hFAe hFBe hread hown h hl hp hv hVV' hn hL1 hj hsm
    go_enter Try.func59, Try.ntmps59
    go_wp2_with fail
    refine HAT.out.mono ?_
    rintro e w1 ⟨rfl, rfl⟩
    go_wp2_with fail
    have hS0 := HS0.out
    refine wp_region_last (DropS b room w.heap.size VV L) (Lo w.heap.size b) (fun k u v => ((k = 16 ∨ k = 19) → (Lo w.heap.size b) u v) ∧ (¬ (k = 16 ∨ k = 19) → (fun u v => Below u.heap.size u v ∧ Below w.heap.size u v) u v)) (fun a i => match i with
        | 0 => (fun v _ => v = .pointer (some ⟨b, 0, none⟩))
        | 1 => (fun v W => ∃ A0, v = .slice A0 0 0 ∧ W.ownsRow w.heap.size DE 4 v 0 [])
        | 2 => (fun v _ => v = .pointer (some ⟨b, 0, none⟩))
        | 3 => (fun v _ => v = .pointer (some ⟨b, 0, none⟩))
        | 4 => (fun v _ => v = .pointer (some ⟨b, 1, none⟩))
        | 5 => (fun v _ => v = .slice (some ⟨g, 0, none⟩) n vc)
        | 6 => (fun v _ => v = .int .i64 (ix : Int))
        | 7 => (fun v _ => v = .slice (some ⟨g, 0, none⟩) ix vc)
        | 8 => (fun v W => W.ownsRow w.heap.size DE 4 v ix (FA))
        | 9 => (fun v _ => v = .pointer (some ⟨b, 0, none⟩))
        | 10 => (fun v _ => v = .pointer (some ⟨b, 0, none⟩))
        | 11 => (fun v _ => v = .pointer (some ⟨b, 1, none⟩))
        | 12 => (fun v _ => v = .slice (some ⟨g, 0, none⟩) n vc)
        | 13 => (fun v _ => v = .int .i64 (ix : Int))
        | 14 => (fun v _ => v = .int .i64 (jx : Int))
        | 15 => (fun v _ => v = .slice (some AJ) (n - jx) (vc - jx))
        | 16 => (fun v W => W.ownsRow w.heap.size DE 4 v (ix + (n - jx)) (FA ++ FB))
        | 17 => (fun v _ => v = .pointer (some ⟨b, 0, none⟩))
        | 18 => (fun v _ => v = .pointer (some ⟨b, 1, none⟩))
        | 19 => (fun v W => ∃ v', Ca DT DE W b room v' L1 ∧ ∀ k, v'.ownBlock = some k → w.heap.size ≤ k)
        | _ => (fun _ _ => True)) #[0, 0, 0, 4, 12, 28, 0, 124, 254, 0, 512, 1536, 3584, 0, 8192, 32256, 65534, 131071, 262143, 524287] #[0, 0, 0, 4, 8, 16, 0, 96, 130, 0, 512, 1024, 2048, 0, 8192, 20480, 33024, 1, 131072, 327680] 982781 19 (by kernel_rfl) 20 rfl (by kernel_rfl) (fun m hm => by subst hm; kernel_rfl) (by kernel_rfl) (fun w => Lo.refl _ _ _) (fun u v w h1 h2 => h1.trans h2) ?_ ?_ (hS0) ?_ ?_
    · intro k u v hk hr
      by_cases hs : k = 16 ∨ k = 19
      · have h := hr.1 hs; exact h
      · have h := hr.2 hs; exact Lo.of h.2
    · intro i hi hiz
      rcases (by omega : i = 0 ∨ i = 1 ∨ i = 2 ∨ i = 3 ∨ i = 4 ∨ i = 5 ∨ i = 6 ∨ i = 7 ∨ i = 8 ∨ i = 9 ∨ i = 10 ∨ i = 11 ∨ i = 12 ∨ i = 13 ∨ i = 14 ∨ i = 15 ∨ i = 16 ∨ i = 17 ∨ i = 18 ∨ i = 19) with rfl | rfl | rfl | rfl | rfl | rfl | rfl | rfl | rfl | rfl | rfl | rfl | rfl | rfl | rfl | rfl | rfl | rfl | rfl | rfl
      · intro k hk q hq hqt v w w' h hr
        by_cases hs : k = 16 ∨ k = 19
        · have hr0 := hr.1 hs
          rcases hs with rfl | rfl
          · exact (fun (h : _) (hr : _) => by exact h) h hr0
          · exact (fun (h : _) (hr : _) => by exact h) h hr0
        · have hr := hr.2 hs
          exact h
      · intro k hk q hq hqt v w w' h hr
        by_cases hs : k = 16 ∨ k = 19
        · have hr0 := hr.1 hs
          rcases hs with rfl | rfl
          · exact absurd (hq.trans hqt) (ne_true_of_eq_false (by kernel_rfl))
          · exact absurd (hq.trans hqt) (ne_true_of_eq_false (by kernel_rfl))
        · have hr := hr.2 hs
          obtain ⟨A0, h1, h2⟩ := h; exact ⟨A0, h1, own_kept h2 hr.1⟩
      · intro k hk q hq hqt v w w' h hr
        by_cases hs : k = 16 ∨ k = 19
        · have hr0 := hr.1 hs
          rcases hs with rfl | rfl
          · exact (fun (h : _) (hr : _) => by exact h) h hr0
          · exact (fun (h : _) (hr : _) => by exact h) h hr0
        · have hr := hr.2 hs
          exact h
      · intro k hk q hq hqt v w w' h hr
        by_cases hs : k = 16 ∨ k = 19
        · have hr0 := hr.1 hs
          rcases hs with rfl | rfl
          · exact (fun (h : _) (hr : _) => by exact h) h hr0
          · exact (fun (h : _) (hr : _) => by exact h) h hr0
        · have hr := hr.2 hs
          exact h
      · intro k hk q hq hqt v w w' h hr
        by_cases hs : k = 16 ∨ k = 19
        · have hr0 := hr.1 hs
          rcases hs with rfl | rfl
          · exact (fun (h : _) (hr : _) => by exact h) h hr0
          · exact (fun (h : _) (hr : _) => by exact h) h hr0
        · have hr := hr.2 hs
          exact h
      · intro k hk q hq hqt v w w' h hr
        by_cases hs : k = 16 ∨ k = 19
        · have hr0 := hr.1 hs
          rcases hs with rfl | rfl
          · exact (fun (h : _) (hr : _) => by exact h) h hr0
          · exact (fun (h : _) (hr : _) => by exact h) h hr0
        · have hr := hr.2 hs
          exact h
      · intro k hk q hq hqt v w w' h hr
        by_cases hs : k = 16 ∨ k = 19
        · have hr0 := hr.1 hs
          rcases hs with rfl | rfl
          · exact (fun (h : _) (hr : _) => by exact h) h hr0
          · exact (fun (h : _) (hr : _) => by exact h) h hr0
        · have hr := hr.2 hs
          exact h
      · intro k hk q hq hqt v w w' h hr
        by_cases hs : k = 16 ∨ k = 19
        · have hr0 := hr.1 hs
          rcases hs with rfl | rfl
          · exact (fun (h : _) (hr : _) => by exact h) h hr0
          · exact (fun (h : _) (hr : _) => by exact h) h hr0
        · have hr := hr.2 hs
          exact h
      · intro k hk q hq hqt v w w' h hr
        by_cases hs : k = 16 ∨ k = 19
        · have hr0 := hr.1 hs
          rcases hs with rfl | rfl
          · exact absurd (hq.trans hqt) (ne_true_of_eq_false (by kernel_rfl))
          · exact absurd (hq.trans hqt) (ne_true_of_eq_false (by kernel_rfl))
        · have hr := hr.2 hs
          exact own_kept h hr.1
      · intro k hk q hq hqt v w w' h hr
        by_cases hs : k = 16 ∨ k = 19
        · have hr0 := hr.1 hs
          rcases hs with rfl | rfl
          · exact (fun (h : _) (hr : _) => by exact h) h hr0
          · exact (fun (h : _) (hr : _) => by exact h) h hr0
        · have hr := hr.2 hs
          exact h
      · intro k hk q hq hqt v w w' h hr
        by_cases hs : k = 16 ∨ k = 19
        · have hr0 := hr.1 hs
          rcases hs with rfl | rfl
          · exact (fun (h : _) (hr : _) => by exact h) h hr0
          · exact (fun (h : _) (hr : _) => by exact h) h hr0
        · have hr := hr.2 hs
          exact h
      · intro k hk q hq hqt v w w' h hr
        by_cases hs : k = 16 ∨ k = 19
        · have hr0 := hr.1 hs
          rcases hs with rfl | rfl
          · exact (fun (h : _) (hr : _) => by exact h) h hr0
          · exact (fun (h : _) (hr : _) => by exact h) h hr0
        · have hr := hr.2 hs
          exact h
      · intro k hk q hq hqt v w w' h hr
        by_cases hs : k = 16 ∨ k = 19
        · have hr0 := hr.1 hs
          rcases hs with rfl | rfl
          · exact (fun (h : _) (hr : _) => by exact h) h hr0
          · exact (fun (h : _) (hr : _) => by exact h) h hr0
        · have hr := hr.2 hs
          exact h
      · intro k hk q hq hqt v w w' h hr
        by_cases hs : k = 16 ∨ k = 19
        · have hr0 := hr.1 hs
          rcases hs with rfl | rfl
          · exact (fun (h : _) (hr : _) => by exact h) h hr0
          · exact (fun (h : _) (hr : _) => by exact h) h hr0
        · have hr := hr.2 hs
          exact h
      · intro k hk q hq hqt v w w' h hr
        by_cases hs : k = 16 ∨ k = 19
        · have hr0 := hr.1 hs
          rcases hs with rfl | rfl
          · exact (fun (h : _) (hr : _) => by exact h) h hr0
          · exact (fun (h : _) (hr : _) => by exact h) h hr0
        · have hr := hr.2 hs
          exact h
      · intro k hk q hq hqt v w w' h hr
        by_cases hs : k = 16 ∨ k = 19
        · have hr0 := hr.1 hs
          rcases hs with rfl | rfl
          · exact (fun (h : _) (hr : _) => by exact h) h hr0
          · exact (fun (h : _) (hr : _) => by exact h) h hr0
        · have hr := hr.2 hs
          exact h
      · intro k hk q hq hqt v w w' h hr
        by_cases hs : k = 16 ∨ k = 19
        · have hr0 := hr.1 hs
          rcases hs with rfl | rfl
          · exact absurd (hq.trans hqt) (ne_true_of_eq_false (by kernel_rfl))
          · exact absurd (hq.trans hqt) (ne_true_of_eq_false (by kernel_rfl))
        · have hr := hr.2 hs
          exact own_kept h hr.1
      · intro k hk q hq hqt v w w' h hr
        by_cases hs : k = 16 ∨ k = 19
        · have hr0 := hr.1 hs
          rcases hs with rfl | rfl
          · exact absurd (hq.trans hqt) (ne_true_of_eq_false (by kernel_rfl))
          · exact (fun (h : _) (hr : _) => by exact h) h hr0
        · have hr := hr.2 hs
          exact h
      · intro k hk q hq hqt v w w' h hr
        by_cases hs : k = 16 ∨ k = 19
        · have hr0 := hr.1 hs
          rcases hs with rfl | rfl
          · exact absurd (hq.trans hqt) (ne_true_of_eq_false (by kernel_rfl))
          · exact (fun (h : _) (hr : _) => by exact h) h hr0
        · have hr := hr.2 hs
          exact h
      · exact absurd rfl hiz
    · intro i hi
      rcases (by omega : i = 0 ∨ i = 1 ∨ i = 2 ∨ i = 3 ∨ i = 4 ∨ i = 5 ∨ i = 6 ∨ i = 7 ∨ i = 8 ∨ i = 9 ∨ i = 10 ∨ i = 11 ∨ i = 12 ∨ i = 13 ∨ i = 14 ∨ i = 15 ∨ i = 16 ∨ i = 17 ∨ i = 18 ∨ i = 19) with rfl | rfl | rfl | rfl | rfl | rfl | rfl | rfl | rfl | rfl | rfl | rfl | rfl | rfl | rfl | rfl | rfl | rfl | rfl | rfl
      · -- 0: Op.move (Operand.tmp 0)
        intro l hl vs W hS hR hp
        obtain rfl : l = [] := hl.symm.trans (by kernel_rfl)
        clear hp hl
        refine opgoal (_) (some 11) rfl rfl fun K hK => ?_
        refine Runs.mk ?_
        simp only [putAll]
        go_simp
        refine hK _ _ ?_ (fun _ => hS) ⟨fun h => absurd h (by decide), fun _ => ((fun w => ⟨Below.refl _ _, Below.refl _ _⟩) W)⟩ _ rfl rfl
        first | rfl | go_simp | simp
      · -- 1: Op.buildSlice 90 0 #[]
        intro l hl vs W hS hR hp
        obtain rfl : l = [] := hl.symm.trans (by kernel_rfl)
        clear hp hl
        refine opgoal (_) (some 12) rfl rfl fun K hK => ?_
        refine Runs.mk ?_
        simp only [putAll]
        go_simp
        refine hK _ _ ⟨_, rfl, ?_⟩ (fun _ => hS.below (below_alloc _ _)) ⟨fun h => absurd h (by decide), fun _ => ⟨below_alloc _ _, (below_alloc _ _).mono hS.sz⟩⟩ _ rfl rfl
        exact World.ownsRow_lit (size := 4) W #[] 0 hS.sz (by decide) rfl
      · -- 2: Op.move (Operand.tmp 0)
        intro l hl vs W hS hR hp
        obtain rfl : l = [] := hl.symm.trans (by kernel_rfl)
        clear hp hl
        refine opgoal (_) (some 13) rfl rfl fun K hK => ?_
        refine Runs.mk ?_
        simp only [putAll]
        go_simp
        refine hK _ _ ?_ (fun _ => hS) ⟨fun h => absurd h (by decide), fun _ => ((fun w => ⟨Below.refl _ _, Below.refl _ _⟩) W)⟩ _ rfl rfl
        first | rfl | go_simp | simp
      · -- 3: Op.nilCheck (Operand.tmp 13)
        intro l hl vs W hS hR hp
        obtain rfl : l = [(2, 13)] := hl.symm.trans (by kernel_rfl)
        have p2 : vs 2 = _ := hp 2 (by decide) (by decide)
        clear hp hl
        refine opgoal (_) (some 14) rfl rfl fun K hK => ?_
        refine Runs.mk ?_
        simp only [putAll]
        go_simp
        refine hK _ _ ?_ (fun _ => hS) ⟨fun h => absurd h (by decide), fun _ => ((fun w => ⟨Below.refl _ _, Below.refl _ _⟩) W)⟩ _ rfl rfl
        first | rfl | go_simp | simp
      · -- 4: Op.fieldAddr 92 (Operand.tmp 14) 1
        intro l hl vs W hS hR hp
        obtain rfl : l = [(2, 13), (3, 14)] := hl.symm.trans (by kernel_rfl)
        have p3 : vs 3 = _ := hp 3 (by decide) (by decide)
        clear hp hl
        refine opgoal (_) (some 15) rfl rfl fun K hK => ?_
        refine Runs.mk ?_
        simp only [putAll]
        go_simp
        refine hK _ _ ?_ (fun _ => hS) ⟨fun h => absurd h (by decide), fun _ => ((fun w => ⟨Below.refl _ _, Below.refl _ _⟩) W)⟩ _ rfl rfl
        first | rfl | go_simp | simp
      · -- 5: Op.load 90 (Operand.tmp 15)
        intro l hl vs W hS hR hp
        obtain rfl : l = [(2, 13), (3, 14), (4, 15)] := hl.symm.trans (by kernel_rfl)
        have p4 : vs 4 = _ := hp 4 (by decide) (by decide)
        clear hp hl
        refine opgoal (_) (some 16) rfl rfl fun K hK => ?_
        have hb1 : W.cell? ⟨b, 1, none⟩ = some VV := hS.cell
        rw [hVV.out] at hb1
        refine Runs.mk ?_
        simp only [putAll]
        go_simp
        refine hK _ _ ?_ (fun _ => hS) ⟨fun h => absurd h (by decide), fun _ => ((fun w => ⟨Below.refl _ _, Below.refl _ _⟩) W)⟩ _ rfl rfl
        first | rfl | go_simp | simp
      · -- 6: Op.move (Operand.tmp 5)
        intro l hl vs W hS hR hp
        obtain rfl : l = [] := hl.symm.trans (by kernel_rfl)
        clear hp hl
        refine opgoal (_) (some 17) rfl rfl fun K hK => ?_
        refine Runs.mk ?_
        simp only [putAll]
        go_simp
        refine hK _ _ ?_ (fun _ => hS) ⟨fun h => absurd h (by decide), fun _ => ((fun w => ⟨Below.refl _ _, Below.refl _ _⟩) W)⟩ _ rfl rfl
        first | rfl | go_simp | simp
      · -- 7: Op.slice 90 (Operand.tmp 16) none (some (Operand.tmp 17)) none
        intro l hl vs W hS hR hp
        obtain rfl : l = [(2, 13), (3, 14), (4, 15), (5, 16), (6, 17)] := hl.symm.trans (by kernel_rfl)
        have p5 : vs 5 = _ := hp 5 (by decide) (by decide)
        have p6 : vs 6 = _ := hp 6 (by decide) (by decide)
        clear hp hl
        refine opgoal (_) (some 18) rfl rfl fun K hK => ?_
        refine Runs.mk ?_
        simp only [putAll]
        go_simp
        refine hK _ _ ?_ (fun _ => hS) ⟨fun h => absurd h (by decide), fun _ => ((fun w => ⟨Below.refl _ _, Below.refl _ _⟩) W)⟩ _ rfl rfl
        first | rfl | go_simp | simp
      · -- 8: Op.call { callee := Callee.builtin Builtin.append, args := #[Operand.tmp 12, Operand.tmp 18], argTypes := #[90, 90] }
        intro l hl vs W hS hR hp
        obtain rfl : l = [(1, 12), (2, 13), (3, 14), (4, 15), (5, 16), (6, 17), (7, 18)] := hl.symm.trans (by kernel_rfl)
        have p1 : (fun v W => ∃ A0, v = .slice A0 0 0 ∧ W.ownsRow w.heap.size DE 4 v 0 []) (vs 1) W := hp 1 (by decide) (by decide)
        dsimp only at p1
        have p7 : vs 7 = _ := hp 7 (by decide) (by decide)
        clear hp hl
        refine opgoal ({ dst := some 19, op := Op.call { callee := Callee.builtin Builtin.append, args := #[Operand.tmp 12, Operand.tmp 18], argTypes := #[90, 90] }, type := 90, pos := "ref.go:29", after := #[{ on := 1, ground := Ground.data }, { on := 7, ground := Ground.data }], guard := none }) (some 19) rfl rfl fun K hK => ?_
        obtain ⟨A0, q1, o1⟩ := p1
        rw [q1] at o1
        refine runs_append_fresh W (wanted_none rfl) (.tmp 12) (.tmp 18) w.heap.size 90 DE (.agg #[.int .i64 0, .int .i64 0, .int .i64 0, .int .i64 0]) 4 32 rfl (by kernel_rfl) (by kernel_rfl) rfl (by decide) (by decide) A0 (by simp [putAll, Act.put, Act.eval, q1]) o1 (some ⟨g, 0, none⟩) ix vc (by simp [putAll, Act.put, Act.eval, p7]) (fun h => by cases h) FA hFA.out (hLA.out W hS) hOA.out (by have := hn9.out; omega) hS.sz ?_
        intro v' w' h1 h2
        exact hK _ _ h1 (fun _ => hS.below h2) ⟨fun h => absurd h (by decide), fun _ => ⟨h2, h2.mono hS.sz⟩⟩ _ put_dfs (put_slot (by simp))
      · -- 9: Op.move (Operand.tmp 0)
        intro l hl vs W hS hR hp
        obtain rfl : l = [] := hl.symm.trans (by kernel_rfl)
        clear hp hl
        refine opgoal (_) (some 20) rfl rfl fun K hK => ?_
        refine Runs.mk ?_
        simp only [putAll]
        go_simp
        refine hK _ _ ?_ (fun _ => hS) ⟨fun h => absurd h (by decide), fun _ => ((fun w => ⟨Below.refl _ _, Below.refl _ _⟩) W)⟩ _ rfl rfl
        first | rfl | go_simp | simp
      · -- 10: Op.nilCheck (Operand.tmp 20)
        intro l hl vs W hS hR hp
        obtain rfl : l = [(9, 20)] := hl.symm.trans (by kernel_rfl)
        have p9 : vs 9 = _ := hp 9 (by decide) (by decide)
        clear hp hl
        refine opgoal (_) (some 21) rfl rfl fun K hK => ?_
        refine Runs.mk ?_
        simp only [putAll]
        go_simp
        refine hK _ _ ?_ (fun _ => hS) ⟨fun h => absurd h (by decide), fun _ => ((fun w => ⟨Below.refl _ _, Below.refl _ _⟩) W)⟩ _ rfl rfl
        first | rfl | go_simp | simp
      · -- 11: Op.fieldAddr 92 (Operand.tmp 21) 1
        intro l hl vs W hS hR hp
        obtain rfl : l = [(9, 20), (10, 21)] := hl.symm.trans (by kernel_rfl)
        have p10 : vs 10 = _ := hp 10 (by decide) (by decide)
        clear hp hl
        refine opgoal (_) (some 22) rfl rfl fun K hK => ?_
        refine Runs.mk ?_
        simp only [putAll]
        go_simp
        refine hK _ _ ?_ (fun _ => hS) ⟨fun h => absurd h (by decide), fun _ => ((fun w => ⟨Below.refl _ _, Below.refl _ _⟩) W)⟩ _ rfl rfl
        first | rfl | go_simp | simp
      · -- 12: Op.load 90 (Operand.tmp 22)
        intro l hl vs W hS hR hp
        obtain rfl : l = [(9, 20), (10, 21), (11, 22)] := hl.symm.trans (by kernel_rfl)
        have p11 : vs 11 = _ := hp 11 (by decide) (by decide)
        clear hp hl
        refine opgoal (_) (some 23) rfl rfl fun K hK => ?_
        have hb1 : W.cell? ⟨b, 1, none⟩ = some VV := hS.cell
        rw [hVV.out] at hb1
        refine Runs.mk ?_
        simp only [putAll]
        go_simp
        refine hK _ _ ?_ (fun _ => hS) ⟨fun h => absurd h (by decide), fun _ => ((fun w => ⟨Below.refl _ _, Below.refl _ _⟩) W)⟩ _ rfl rfl
        first | rfl | go_simp | simp
      · -- 13: Op.move (Operand.tmp 5)
        intro l hl vs W hS hR hp
        obtain rfl : l = [] := hl.symm.trans (by kernel_rfl)
        clear hp hl
        refine opgoal (_) (some 24) rfl rfl fun K hK => ?_
        refine Runs.mk ?_
        simp only [putAll]
        go_simp
        refine hK _ _ ?_ (fun _ => hS) ⟨fun h => absurd h (by decide), fun _ => ((fun w => ⟨Below.refl _ _, Below.refl _ _⟩) W)⟩ _ rfl rfl
        first | rfl | go_simp | simp
      · -- 14: Op.binOp BinOp.add 3 (Operand.tmp 24) (Operand.const (Value.int IntKind.i64 1)) 3
        intro l hl vs W hS hR hp
        obtain rfl : l = [(13, 24)] := hl.symm.trans (by kernel_rfl)
        have p13 : vs 13 = _ := hp 13 (by decide) (by decide)
        clear hp hl
        refine opgoal (_) (some 25) rfl rfl fun K hK => ?_
        have hwr' := hwr.out
        refine Runs.mk ?_
        simp only [putAll]
        go_simp
        refine hK _ _ ?_ (fun _ => hS) ⟨fun h => absurd h (by decide), fun _ => ((fun w => ⟨Below.refl _ _, Below.refl _ _⟩) W)⟩ _ rfl rfl
        first | rfl | go_simp | simp
      · -- 15: Op.slice 90 (Operand.tmp 23) (some (Operand.tmp 25)) none none
        intro l hl vs W hS hR hp
        obtain rfl : l = [(9, 20), (10, 21), (11, 22), (12, 23), (13, 24), (14, 25)] := hl.symm.trans (by kernel_rfl)
        have p12 : vs 12 = _ := hp 12 (by decide) (by decide)
        have p14 : vs 14 = _ := hp 14 (by decide) (by decide)
        clear hp hl
        refine opgoal (_) (some 26) rfl rfl fun K hK => ?_
        have hAJ' := hAJ.out
        refine Runs.mk ?_
        simp only [putAll]
        go_simp
        refine hK _ _ ?_ (fun _ => hS) ⟨fun h => absurd h (by decide), fun _ => ((fun w => ⟨Below.refl _ _, Below.refl _ _⟩) W)⟩ _ rfl rfl
        first | rfl | go_simp | simp
      · -- 16: Op.call { callee := Callee.builtin Builtin.append, args := #[Operand.tmp 19, Operand.tmp 26], argTypes := #[90, 90] }
        intro l hl vs W hS hR hp
        obtain rfl : l = [(1, 12), (2, 13), (3, 14), (4, 15), (5, 16), (6, 17), (7, 18), (8, 19), (9, 20), (10, 21), (11, 22), (12, 23), (13, 24), (14, 25), (15, 26)] := hl.symm.trans (by kernel_rfl)
        have p8 : (fun v W => W.ownsRow w.heap.size DE 4 v ix (FA)) (vs 8) W := hp 8 (by decide) (by decide)
        dsimp only at p8
        have p15 : vs 15 = _ := hp 15 (by decide) (by decide)
        clear hp hl
        refine opgoal ({ dst := some 27, op := Op.call { callee := Callee.builtin Builtin.append, args := #[Operand.tmp 19, Operand.tmp 26], argTypes := #[90, 90] }, type := 90, pos := "ref.go:29", after := #[{ on := 8, ground := Ground.data }, { on := 15, ground := Ground.data }, { on := 8, ground := Ground.chain }], guard := none }) (some 27) rfl rfl fun K hK => ?_
        refine runs_append_src W (wanted_none rfl) (.tmp 19) (.tmp 26) w.heap.size 90 DE (.agg #[.int .i64 0, .int .i64 0, .int .i64 0, .int .i64 0]) 4 32 rfl (by kernel_rfl) (by kernel_rfl) rfl (by decide) (by decide) (vs 8) ix _ (by simp [putAll, Act.put, Act.eval]) p8 (some AJ) (n - jx) (vc - jx) (by simp [putAll, Act.put, Act.eval, p15]) (fun h => by cases h) FB hFB.out (hLB.out W hS) hOB.out (by have := hn9.out; omega) hS.sz ?_
        intro v' w' h1 h2 h3
        have hbl := below_of_grown h2 hS.sz (fun k hk => (own_lt p8 k hk).1)
        exact hK _ _ h1 (fun _ => hS.lo hbl) ⟨fun _ => Lo.of hbl, fun h => absurd (by decide) h⟩ _ put_dfs (put_slot (by simp))
      · -- 17: Op.nilCheck (Operand.tmp 11)
        intro l hl vs W hS hR hp
        obtain rfl : l = [(0, 11), (1, 12), (2, 13), (3, 14), (4, 15), (5, 16), (6, 17), (7, 18), (8, 19), (9, 20), (10, 21), (11, 22), (12, 23), (13, 24), (14, 25), (15, 26), (16, 27)] := hl.symm.trans (by kernel_rfl)
        have p0 : vs 0 = _ := hp 0 (by decide) (by decide)
        clear hp hl
        refine opgoal (_) (some 28) rfl rfl fun K hK => ?_
        refine Runs.mk ?_
        simp only [putAll]
        go_simp
        refine hK _ _ ?_ (fun _ => hS) ⟨fun h => absurd h (by decide), fun _ => ((fun w => ⟨Below.refl _ _, Below.refl _ _⟩) W)⟩ _ rfl rfl
        first | rfl | go_simp | simp
      · -- 18: Op.fieldAddr 92 (Operand.tmp 28) 1
        intro l hl vs W hS hR hp
        obtain rfl : l = [(0, 11), (1, 12), (2, 13), (3, 14), (4, 15), (5, 16), (6, 17), (7, 18), (8, 19), (9, 20), (10, 21), (11, 22), (12, 23), (13, 24), (14, 25), (15, 26), (16, 27), (17, 28)] := hl.symm.trans (by kernel_rfl)
        have p17 : vs 17 = _ := hp 17 (by decide) (by decide)
        clear hp hl
        refine opgoal (_) (some 29) rfl rfl fun K hK => ?_
        refine Runs.mk ?_
        simp only [putAll]
        go_simp
        refine hK _ _ ?_ (fun _ => hS) ⟨fun h => absurd h (by decide), fun _ => ((fun w => ⟨Below.refl _ _, Below.refl _ _⟩) W)⟩ _ rfl rfl
        first | rfl | go_simp | simp
      · -- 19: Op.store 90 (Operand.tmp 29) (Operand.tmp 27)
        intro l hl vs W hS hR hp
        obtain rfl : l = [(0, 11), (1, 12), (2, 13), (3, 14), (4, 15), (5, 16), (6, 17), (7, 18), (8, 19), (9, 20), (10, 21), (11, 22), (12, 23), (13, 24), (14, 25), (15, 26), (16, 27), (17, 28), (18, 29)] := hl.symm.trans (by kernel_rfl)
        have p16 : (fun v W => W.ownsRow w.heap.size DE 4 v (ix + (n - jx)) (FA ++ FB)) (vs 16) W := hp 16 (by decide) (by decide)
        dsimp only at p16
        have p18 : vs 18 = _ := hp 18 (by decide) (by decide)
        clear hp hl
        refine opgoal (_) (none) rfl rfl fun K hK => ?_
        obtain ⟨A', c', q16⟩ := own_form4 p16
        rw [q16] at p16
        have hb1 : W.cell? ⟨b, 1, none⟩ = some VV := hS.cell
        have hf1 : W.frozen? ⟨b, 1, none⟩ = false := hS.frz
        refine Runs.mk ?_
        simp only [putAll]
        go_simp
        refine hK undef _ ?_ (fun h => absurd rfl h) ⟨fun _ => Lo.set _ _ _ _, fun h => absurd (by decide) h⟩ _ rfl rfl
        exact hS.fin p16 hE1.out.1 hE1.out.2
    · intro l hl vs W hR hp
      obtain rfl : l = [(0, 11), (1, 12), (2, 13), (3, 14), (4, 15), (5, 16), (6, 17), (7, 18), (8, 19), (9, 20), (10, 21), (11, 22), (12, 23), (13, 24), (14, 25), (15, 26), (16, 27), (17, 28), (18, 29)] := hl.symm.trans (by kernel_rfl)
      have p0 : vs 0 = _ := hp 0 (by decide) (by decide)
      have p2 : vs 2 = _ := hp 2 (by decide) (by decide)
      have p3 : vs 3 = _ := hp 3 (by decide) (by decide)
      have p4 : vs 4 = _ := hp 4 (by decide) (by decide)
      have p5 : vs 5 = _ := hp 5 (by decide) (by decide)
      have p6 : vs 6 = _ := hp 6 (by decide) (by decide)
      have p7 : vs 7 = _ := hp 7 (by decide) (by decide)
      have p9 : vs 9 = _ := hp 9 (by decide) (by decide)
      have p10 : vs 10 = _ := hp 10 (by decide) (by decide)
      have p11 : vs 11 = _ := hp 11 (by decide) (by decide)
      have p12 : vs 12 = _ := hp 12 (by decide) (by decide)
      have p13 : vs 13 = _ := hp 13 (by decide) (by decide)
      have p14 : vs 14 = _ := hp 14 (by decide) (by decide)
      have p15 : vs 15 = _ := hp 15 (by decide) (by decide)
      have p17 : vs 17 = _ := hp 17 (by decide) (by decide)
      have p18 : vs 18 = _ := hp 18 (by decide) (by decide)
      have p19 : (fun v W => ∃ v', Ca DT DE W b room v' L1 ∧ ∀ k, v'.ownBlock = some k → w.heap.size ≤ k) (vs 19) W := hp 19 (by decide) (by decide)
      dsimp only at p19
      clear hp hl
      simp only [putAll_mk, setAll, List.setIfInBounds_toArray, List.set_cons_succ, List.set_cons_zero, p0, p2, p3, p4, p5, p6, p7, p9, p10, p11, p12, p13, p14, p15, p17, p18]
      have HE := Lib.hid p19
      have HR := Lib.hid hR
      clear p19 hR
      go_wp2
      go_ret
      exact ⟨rfl, HFIN.out _ HE.out HR.out⟩
end Go.Proofs.Ytbdcgfdchkbcnaa.Ca

/- cache: Drop, Stale. -/
import Derived.Test.YtbdcgfdchkbcnaaCaG
namespace Go.Proofs.Ytbdcgfdchkbcnaa.Ca
open Go.RowKit Go.Proofs.Ytbdcgfdchkbcnaa.L Go.Proofs.Ytbdcgfdchkbcnaa.R Go.Proofs.Ytbdcgfdchkbcnaa.A Go.Proofs.Ytbdcgfdchkbcnaa.S Go.Proofs.Ytbdcgfdchkbcnaa.T Go.Proofs.Ytbdcgfdchkbcnaa.C Go.Proofs.Ytbdcgfdchkbcnaa.G Go.Proofs.Ytbdcgfdchkbcnaa.E Go.Proofs.Ytbdcgfdchkbcnaa.F
set_option linter.unusedVariables false
set_option linter.unusedSimpArgs false

theorem delete_func_nil (fn : FuncId) (cap : Array Value) (p : Ent → Bool) (w : World) (hbd : Bodied Try.prog fn) (hf : ToldE Try.prog fn cap p w []) :
    Calls Try.prog 80 #[.slice none 0 0, .func (.func fn) #[] cap] w fun e w' => e = .returned (.slice none 0 0) ∧ Below w.heap.size w w' := by
  have HI := Lib.hid (index_ent fn cap p none 0 0 [] w hbd ⟨rfl, by omega, by simp, fun h => absurd h (by omega)⟩ hf)
  unfold Bodied at hbd
  clear hf
  go_enter Try.func80, Try.ntmps80
  go_wp2_with fail
  refine HI.out.mono ?_
  rintro e w1 ⟨rfl, hb1⟩
  have hm : idx p [] = -1 := rfl
  rw [hm]
  go_wp2
  go_ret
  exact ⟨rfl, hb1⟩
theorem delete_func_any (fn : FuncId) (cap : Array Value) (p : Ent → Bool) (base : Nat) (v : Value) (L : List Ent) (w : World) (hbd : Bodied Try.prog fn) (h : w.ownsRow base ET 4 v L.length (L.flatMap encE)) (hf : ToldK Try.prog fn cap p v.ownBlock.toList w L) :
    Calls Try.prog 80 #[v, .func (.func fn) #[] cap] w fun e w' => ∃ A c, e = .returned (.slice A (L.filter fun x => !p x).length c) ∧
      w'.ownsRow base ET 4 (.slice A (L.filter fun x => !p x).length c) (L.filter fun x => !p x).length ((L.filter fun x => !p x).flatMap encE) ∧ Keep v.ownBlock.toList w w' ∧ (Value.slice A (L.filter fun x => !p x).length c).ownBlock = v.ownBlock := by
  have h2 := h
  rcases h.2 with ⟨rfl, hn⟩ | ⟨g, cap', cur, rfl, -, -, hnc, -⟩
  · obtain rfl : L = [] := List.eq_nil_of_length_eq_zero hn
    refine (delete_func_nil fn cap p w hbd hf.e).mono ?_
    rintro e w' ⟨rfl, hb⟩
    exact ⟨none, 0, rfl, own_kept h hb, .of_below hb, rfl⟩
  · refine (delete_func fn cap p base g cap' L.length L w hbd h rfl hf).mono ?_
    rintro e w' ⟨rfl, ho, hk⟩
    exact ⟨_, _, rfl, ho, hk, rfl⟩
theorem rd_keep0 {S : List Nat} {w w1 : World} {A : Option Addr} {n : Nat} {xs : List Value} (h : Rd w A n xs) (hb : Keep S w w1) (hs : 0 < n → ∀ o, A = some o → o.block ∉ S) : Rd w1 A n xs := by
  rcases Nat.eq_zero_or_pos n with h0 | h0
  · subst h0
    obtain rfl : xs = [] := List.eq_nil_of_length_eq_zero h.1
    exact rd_nil _ _
  · exact h.keep hb fun b o e => hs h0 ⟨b, o, none⟩ e
theorem drop_nil (A : Option Addr) (n c : Nat) (w : World) : Calls Try.prog 55 #[.pointer none, .slice A n c] w fun e w' => e = .returned (.int .i64 0) ∧ Below w.heap.size w w' := by
  have hb := Lib.hid (below_alloc w (.cells #[.slice A n c] 62))
  go_enter Try.func55, Try.ntmps55
  go_wp2
  go_ret
  exact ⟨rfl, hb.out⟩
set_option maxHeartbeats 2000000 in
theorem drop_any (b room : Nat) (v : Value) (L : List Ent) (A : Option Addr) (n c : Nat) (cs : List Int) (w : World) (h : Ca CT ET w b room v L) (hsm : L.length ≤ 100000) (hr : Rd w A n (cs.map (Value.int .i64))) (ho : 0 < n → ∀ o, A = some o → v.ownBlock ≠ some o.block) :
    Calls Try.prog 55 #[.pointer (some ⟨b, 0, none⟩), .slice A n c] w fun e w' => e = .returned (.int .i64 ((L.length : Int) - (dropL cs L).length)) ∧ Goes b room v (dropL cs L) w w' := by
  have hmf : ∀ (fn : Fn) (first cap : Array Value) (w : World), (Instr.makeFunc fn first cap).run Try.prog w = .ok (.func fn first cap) w := fun _ _ _ _ => rfl
  obtain ⟨W, hW⟩ : ∃ W, Hid (w.alloc (.cells #[.slice A n c] 62) = W) := ⟨_, Lib.hid rfl⟩
  have hb0 : Below w.heap.size w W := by rw [← hW.out]; exact below_alloc _ _
  have cl : W.cell? ⟨w.heap.size, 0, none⟩ = some (.slice A n c) := by rw [← hW.out]; exact cell_alloc w _ _ 0
  have HW := h.below hb0
  have hnx : ∀ S, S = v.ownBlock.toList → w.heap.size ∉ S := fun S hS hm => by subst hS; have := (h.ne w.heap.size (by simpa using hm)).2; omega
  have told : ToldK Try.prog 81 #[.pointer (some ⟨w.heap.size, 0, none⟩)] (fun e => cs.contains e.1) v.ownBlock.toList W L := fun x hx w1 hk =>
    drop1 w.heap.size A n c cs x.1 x.2.1 x.2.2.1 x.2.2.2 w1 (keep_cell hk cl (hnx _ rfl)) (rd_keep0 (hr.below hb0) hk fun h0 o hA hm => ho h0 o hA (by simpa using hm))
  have HD := Lib.hid (delete_func_any _ _ _ (b + 1) v L W bodied_drop1 HW.own told)
  obtain ⟨c0, c1, f0, f1⟩ := HW.cell
  have hlt := h.lt
  have hvl : ∃ A0 c0, v = .slice A0 L.length c0 := by obtain ⟨A0, c0, e, _⟩ := h.rd; exact ⟨A0, c0, e⟩
  obtain ⟨A0, cc0, hv0⟩ := hvl
  have hbk : b ∉ v.ownBlock.toList := fun hm => by have := (h.ne b (by simpa using hm)).1; omega
  have HBLK := Lib.hid HW.blk
  have HB := Lib.hid hb0
  obtain ⟨D, hD⟩ : ∃ D, Hid (dropL cs L = D) := ⟨_, Lib.hid rfl⟩
  have hDD : (L.filter fun x => !(fun e : Ent => cs.contains e.1) x) = D := hD.out
  have hDl : D.length ≤ L.length := by rw [← hD.out]; exact len_drop
  rw [hD.out]
  rw [hDD] at HD
  obtain ⟨n1, hn1⟩ : ∃ n1, L.length = n1 := ⟨_, rfl⟩
  obtain ⟨n2, hn2⟩ : ∃ n2, D.length = n2 := ⟨_, rfl⟩
  have HN2 := Lib.hid hn2
  rw [hn1] at hv0 hDl hsm ⊢
  rw [hn2] at hDl HD ⊢
  clear told hr ho h hnx HW hb0 cl hDD hn1 hn2
  rw [hv0] at c1
  have HV0 := Lib.hid hv0
  rw [hv0] at HD
  go_enter Try.func55, Try.ntmps55
  go_wp2_with (rw [hW.out])
  refine HD.out.mono ?_
  rintro e w1 ⟨A1, cc1, rfl, ho1, hk1, hb1⟩
  rw [← HV0.out] at hk1 hb1
  have d1 := keep_cell hk1 c1 hbk
  have g1 : w1.frozen? ⟨b, 1, none⟩ = false := (hk1.frozen (by have := HB.out.size; show b < _; omega) hbk).trans f1
  have hbl := Lib.hid (keep_block hk1 HBLK.out hbk)
  have HO := Lib.hid ho1
  have HK := Lib.hid hk1
  have HB1 := Lib.hid hb1
  clear ho1 hk1 hb1
  go_wp2_with fail
  go_ret
  have hk2 : Keep [b] w1 (w1.setCell ⟨b, 1, none⟩ (.slice A1 n2 cc1)) := (Keep.refl _ _).setCell (p := ⟨b, 1, none⟩) (.inl (by simp)) _
  refine ⟨rfl, .slice A1 n2 cc1, ⟨(Go.Proofs.Ytbdcgfdchkbcnaa.L.heap_setCell_at w1 b 1 _ _ _ _ hbl.out).trans rfl, ?_⟩, ?_, .inl HB1.out⟩
  · rw [HN2.out]
    exact own_keep HO.out hk2 (fun k hk => by have := (own_lt HO.out k hk).1; simp; omega)
  · exact ((Keep.of_below HB.out).trans (HK.out.mono fun x hx => List.mem_cons_of_mem _ hx)).trans (hk2.mono (by simp))
theorem stale_nil (c x : Int) (w : World) : Calls Try.prog 54 #[.pointer none, .int .i64 c, .int .i64 x] w fun e w' => e = .returned (.bool false) ∧ Below w.heap.size w w' := by
  have HP := Lib.hid (peek_nil c w)
  unfold aggE z0 at HP
  dsimp only at HP
  go_enter Try.func54, Try.ntmps54
  go_wp2_with fail
  refine HP.out.mono ?_
  rintro e w1 ⟨rfl, hb1⟩
  have hb2 := Lib.hid (below2 hb1 (below_alloc w1 (.cells #[.int .i64 0, .int .i64 0, .int .i64 0, .int .i64 0] 77)))
  clear hb1
  go_wp2
  go_ret
  exact ⟨rfl, hb2.out⟩
set_option maxHeartbeats 2000000 in
theorem stale_any (b room : Nat) (v : Value) (L : List Ent) (c x : Int) (w : World) (h : Ca CT ET w b room v L) (hsm : L.length ≤ 100000) :
    Calls Try.prog 54 #[.pointer (some ⟨b, 0, none⟩), .int .i64 c, .int .i64 x] w fun e w' => e = .returned (.bool (staleL c x L).2) ∧ Goes b room v (staleL c x L).1 w w' := by
  have HP := Lib.hid (peek_any b room v L c w h hsm)
  obtain ⟨⟨⟨z1, z2, z3, z4⟩, t⟩, hp⟩ : ∃ r, peekL c L = r := ⟨_, rfl⟩
  rw [hp] at HP
  dsimp only [aggE] at HP
  have HH := Lib.hid h
  have hst : staleL c x L = if t = true ∧ z2 < x then (dropL [c] L, decide ((L.length : Int) - (dropL [c] L).length = 1)) else (L, false) := by unfold staleL; rw [hp]
  have STOP : Hid (∀ w1, Below w.heap.size w w1 → Goes b room v L w w1) := Lib.hid fun w1 hb => ⟨v, HH.out.below hb, Chg.of_below hb⟩
  clear h hp
  cases t with
  | false =>
    rw [if_neg (by simp)] at hst
    rw [hst]
    clear hst
    go_enter Try.func54, Try.ntmps54
    go_wp2_with fail
    refine HP.out.mono ?_
    rintro e w1 ⟨rfl, hb1⟩
    have hb2 := Lib.hid (below2 hb1 (below_alloc w1 (.cells #[.int .i64 z1, .int .i64 z2, .int .i64 z3, .int .i64 z4] 77)))
    clear hb1
    go_wp2
    go_ret
    exact ⟨rfl, STOP.out _ hb2.out⟩
  | true =>
    by_cases hlt : z2 < x
    · rw [if_pos ⟨rfl, hlt⟩] at hst
      rw [hst]
      have hd : decide (z2 < x) = true := by simpa using hlt
      obtain ⟨D, hD⟩ : ∃ D, Hid (dropL [c] L = D) := ⟨_, Lib.hid rfl⟩
      have hDl : D.length ≤ L.length := by rw [← hD.out]; exact len_drop
      rw [hD.out]
      obtain ⟨n1, hn1⟩ : ∃ n1, Hid (L.length = n1) := ⟨_, Lib.hid rfl⟩
      obtain ⟨n2, hn2⟩ : ∃ n2, Hid (D.length = n2) := ⟨_, Lib.hid rfl⟩
      rw [hn1.out, hn2.out] at hDl
      rw [hn1.out, hn2.out]
      obtain ⟨q, hq⟩ : ∃ q, (decide ((n1 : Int) - n2 = 1)) = q := ⟨_, rfl⟩
      dsimp only
      rw [hq]
      have hq' : ((n1 : Int) - n2 == 1) = q := by rw [← hq]; by_cases h : (n1 : Int) - n2 = 1 <;> simp [h]
      have HQ := Lib.hid hq'
      have HQ2 := Lib.hid hq
      clear hst hlt hq hq'
      go_enter Try.func54, Try.ntmps54
      go_wp2_with fail
      refine HP.out.mono ?_
      rintro e w1 ⟨rfl, hb1⟩
      obtain ⟨W, hW⟩ : ∃ W, Hid ((w1.alloc (.cells #[.int .i64 z1, .int .i64 z2, .int .i64 z3, .int .i64 z4] 77)).alloc (.cells #[.int .i64 c] 3) = W) := ⟨_, Lib.hid rfl⟩
      have hbW : Below w.heap.size w W := by rw [← hW.out]; exact below2 hb1 (below2 (below_alloc _ _) (below_alloc _ _))
      have hsW : w.heap.size ≤ w1.heap.size := hb1.size
      have hrW : Rd W (some ⟨w1.heap.size + 1, 0, none⟩) 1 ([c].map (Value.int .i64)) := rd_one (by
        rw [← hW.out]
        have := cell_alloc (w1.alloc (.cells #[.int .i64 z1, .int .i64 z2, .int .i64 z3, .int .i64 z4] 77)) #[.int .i64 c] 3 0
        rw [World.size_alloc] at this
        exact this)
      have HD := Lib.hid (drop_any b room v L (some ⟨w1.heap.size + 1, 0, none⟩) 1 1 [c] W (HH.out.below hbW) hsm hrW (fun _ o ho hk => by
        injection ho with ho
        subst ho
        have := (HH.out.ne _ hk).2
        simp at this
        omega))
      rw [hD.out, hn1.out, hn2.out] at HD
      have HBW := Lib.hid hbW
      have k1 : ∀ (o : Obj), (w1.alloc (.cells #[.int .i64 z1, .int .i64 z2, .int .i64 z3, .int .i64 z4] 77)).cell? ⟨w1.heap.size, 1, none⟩ = some (.int .i64 z2) := fun _ => cell_alloc w1 _ _ 1
      clear hrW hbW hb1
      go_wp2_with (rw [hW.out])
      refine HD.out.mono ?_
      rintro e w2 ⟨rfl, v2, hC2, hch2⟩
      have HF := Lib.hid (⟨v2, hC2, (Chg.of_below HBW.out).trans hch2⟩ : Goes b room v D w w2)
      clear hC2 hch2
      go_wp2
      go_ret
      exact ⟨retv (congrArg Value.bool (by first | exact HQ.out | exact HQ2.out)), HF.out⟩
    · rw [if_neg (by simp [hlt])] at hst
      rw [hst]
      have hd : decide (z2 < x) = false := by simpa using hlt
      clear hst
      go_enter Try.func54, Try.ntmps54
      go_wp2_with fail
      refine HP.out.mono ?_
      rintro e w1 ⟨rfl, hb1⟩
      have hb2 := Lib.hid (below2 hb1 (below_alloc w1 (.cells #[.int .i64 z1, .int .i64 z2, .int .i64 z3, .int .i64 z4] 77)))
      clear hb1
      go_wp2
      go_ret
      exact ⟨rfl, STOP.out _ hb2.out⟩
end Go.Proofs.Ytbdcgfdchkbcnaa.Ca

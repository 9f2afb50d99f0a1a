/- wheel: Contains on keys; DeleteFunc on any row of timers; Stop. -/
import Derived.Test.YtbifmdepkbgnjaaWhB
import Derived.BigQuiet
namespace Go.Proofs.Ytbifmdepkbgnjaa.Wh
open Go.RowKit Go.Proofs.Ytbifmdepkbgnjaa.L Go.Proofs.Ytbifmdepkbgnjaa.R Go.Proofs.Ytbifmdepkbgnjaa.A Go.Proofs.Ytbifmdepkbgnjaa.S Go.Proofs.Ytbifmdepkbgnjaa.T Go.Proofs.Ytbifmdepkbgnjaa.C Go.Proofs.Ytbifmdepkbgnjaa.G Go.Proofs.Ytbifmdepkbgnjaa.E Go.Proofs.Ytbifmdepkbgnjaa.F
set_option linter.unusedVariables false
set_option linter.unusedSimpArgs false

/-- a row of keys that is read, at one place. -/
theorem key_at {w : World} {A : Option Addr} {n : Nat} {L : List Ky} (h : RdE w A n 6 (L.map encK)) (k : Nat) (hk : k < n) (hl : k < L.length) (x : Ky) (hx : L[k] = x) :
    ∃ b o, A = some ⟨b, o, none⟩ ∧ w.cell? ⟨b, o + k * 6, none⟩ = some (.int .i64 x.1) ∧ w.cell? ⟨b, o + k * 6 + 1, none⟩ = some (.int .i64 x.2.1) ∧ w.cell? ⟨b, o + k * 6 + 2, none⟩ = some (.int .i64 x.2.2.1) ∧ w.cell? ⟨b, o + k * 6 + 3, none⟩ = some (.int .i64 x.2.2.2.1) ∧ w.cell? ⟨b, o + k * 6 + 4, none⟩ = some (.int .i64 x.2.2.2.2.1) ∧ w.cell? ⟨b, o + k * 6 + 5, none⟩ = some (.int .i64 x.2.2.2.2.2) := by
  obtain ⟨b, o, hA, hl', hc⟩ := h.at k hk
  subst hx
  exact ⟨b, o, hA, hc 0 (by decide), hc 1 (by decide), hc 2 (by decide), hc 3 (by decide), hc 4 (by decide), hc 5 (by decide)⟩
set_option maxHeartbeats 4000000 in
theorem index_key (A : Option Addr) (n c : Nat) (xs : List Ky) (k : Ky) (w : World) (hr : RdE w A n 6 (xs.map encK)) :
    Calls Try.prog 35 #[.slice A n c, aggK k] w fun e w' => e = .returned (.int .i64 (idx (fun y => k == y) xs)) ∧ Below w.heap.size w w' := by
  have hln := hr.2.1
  obtain ⟨W, hW⟩ : ∃ W, Hid (w.alloc (.cells (encK k).toArray KT) = W) := ⟨_, Lib.hid rfl⟩
  have hb0 : Below w.heap.size w W := by rw [← hW.out]; exact below_alloc _ _
  have HKB : Hid (KB W w.heap.size k) := Lib.hid (by rw [← hW.out]; exact heap_alloc_new _ _)
  have HR := Lib.hid (hr.below hb0)
  have hl : xs.length = n := by simpa using hr.1
  have HL := Lib.hid hl
  have HB := Lib.hid hb0
  obtain ⟨r, hres⟩ : ∃ r, Hid (idx (fun y => k == y) xs = r) := ⟨_, Lib.hid rfl⟩
  rw [hres.out]
  clear hr hl hb0
  obtain ⟨a1, a2, a3, a4, a5, a6⟩ := k
  dsimp only [encK, aggK] at hW ⊢
  go_enter Try.func35, Try.ntmps35
  go_wp2_with (rw [hW.out])
  go_loopw [8] (fun i wr => ∃ k : Nat, k ≤ n ∧ i = .int .i64 k ∧ Below W.heap.size W wr ∧ Hid (∀ j, (h : j < xs.length) → j < k → ((a1, a2, a3, a4, a5, a6) == xs[j]) = false)) (fun i _ => n - (intOf i).toNat)
  case atStart => exact ⟨0, by omega, rfl, Below.refl _ _, Lib.hid fun j _ h => absurd h (by omega)⟩
  case round =>
    obtain ⟨k, hk, rfl, hb, hnot⟩ := hrel
    by_cases hlt : k < n
    · have hkl : k < xs.length := by have := HL.out; omega
      obtain ⟨z, hz⟩ : ∃ z : Ky, Hid (xs[k] = z) := ⟨_, Lib.hid rfl⟩
      obtain ⟨ab, ao, hA, c0, c1, c2, c3, c4, c5⟩ := key_at (HR.out.below hb) k hlt hkl z hz.out
      subst hA
      obtain ⟨k0, k1, k2, k3, k4, k5⟩ := (HKB.out.below hb).cells
      obtain ⟨q, hq⟩ : ∃ q, ((a1, a2, a3, a4, a5, a6) == z) = q := ⟨_, rfl⟩
      have hzq : Hid (((a1, a2, a3, a4, a5, a6) == xs[k]) = q) := Lib.hid (by rw [hz.out]; exact hq)
      obtain ⟨b1, b2, b3, b4, b5, b6⟩ := z
      dsimp only at k0 k1 k2 k3 k4 k5 c0 c1 c2 c3 c4 c5
      have he := key_eq a1 a2 a3 a4 a5 a6 b1 b2 b3 b4 b5 b6
      rw [hq] at he
      have hm := key_guard
      have HBW := Lib.hid hb
      clear hq hz hb
      cases q
      · go_wp2_with fail
        go_quiet (fail)
        go_wp2
        go_roundw
        case rel => exact ⟨k + 1, by omega, by go_num, below2 HBW.out (below_drewN _ _), Lib.hid fun j hj hjk => by
          by_cases e : j = k
          · subst e; exact hzq.out
          · exact hnot.out j hj (by omega)⟩
        case measure => simp [intOf]; omega
      · go_wp2_with fail
        go_quiet (fail)
        go_wp2
        go_ret
        exact ⟨reti (by rw [← hres.out]; exact (idx_some hkl hnot.out hzq.out).symm), below2 HB.out (below2 HBW.out (below_drewN _ _))⟩
    · go_wp2
      go_ret
      exact ⟨reti (by rw [← hres.out]; exact (idx_none fun j hj => hnot.out j hj (by have := HL.out; omega)).symm), below2 HB.out hb⟩
theorem contains_key (A : Option Addr) (n c : Nat) (xs : List Ky) (k : Ky) (w : World) (hr : RdE w A n 6 (xs.map encK)) :
    Calls Try.prog 27 #[.slice A n c, aggK k] w fun e w' => e = .returned (.bool (xs.any fun y => k == y)) ∧ Below w.heap.size w w' := by
  obtain ⟨W, hW⟩ : ∃ W, Hid (w.alloc (.cells (encK k).toArray KT) = W) := ⟨_, Lib.hid rfl⟩
  have hb0 : Below w.heap.size w W := by rw [← hW.out]; exact below_alloc _ _
  have hkb : KB W w.heap.size k := by rw [← hW.out]; exact heap_alloc_new _ _
  have HC := Lib.hid (index_key A n c xs k W (hr.below hb0))
  have HX : Hid (decide (0 ≤ idx (fun y => k == y) xs) = xs.any fun y => k == y) := Lib.hid idx_any
  obtain ⟨r, hres⟩ : ∃ r, Hid (idx (fun y => k == y) xs = r) := ⟨_, Lib.hid rfl⟩
  rw [hres.out] at HC HX
  rw [← HX.out]
  have HB := Lib.hid hb0
  obtain ⟨k0, k1, k2, k3, k4, k5⟩ := hkb.cells
  clear hr hb0 hkb HX hres
  obtain ⟨a1, a2, a3, a4, a5, a6⟩ := k
  dsimp only [encK, aggK] at hW HC k0 k1 k2 k3 k4 k5 ⊢
  go_enter Try.func27, Try.ntmps27
  go_wp2_with (rw [hW.out])
  refine HC.out.mono ?_
  rintro e w1 ⟨rfl, hb1⟩
  go_wp2
  go_ret
  exact ⟨rfl, below2 HB.out hb1⟩
/-- is a timer one of those that are stopped? -/
def isOf (ks : List Ky) (t : Tm) : Bool := ks.any fun y => keyOf t == y
theorem stop1 (x : Nat) (A : Option Addr) (n c : Nat) (ks : List Ky) (t : Tm) (w : World) (hx : w.cell? ⟨x, 0, none⟩ = some (.slice A n c)) (hr : RdE w A n 6 (ks.map encK)) :
    Calls Try.prog 26 #[aggT t, .pointer (some ⟨x, 0, none⟩)] w fun e w' => e = .returned (.bool (isOf ks t)) ∧ Below w.heap.size w w' := by
  obtain ⟨W, hW⟩ : ∃ W, Hid (w.alloc (.cells (encT t).toArray TM) = W) := ⟨_, Lib.hid rfl⟩
  have hbl : Below w.heap.size w W := by rw [← hW.out]; exact below_alloc _ _
  have g2 : W.heap[w.heap.size]? = some (.cells (encT t).toArray TM (0, 0)) := by rw [← hW.out]; exact heap_alloc_new _ _
  have hx1 : W.cell? ⟨x, 0, none⟩ = some (.slice A n c) := cell_below hbl hx
  have HC := Lib.hid (contains_key A n c ks (keyOf t) W (hr.below hbl))
  obtain ⟨q, hq⟩ : ∃ q, Hid ((ks.any fun y => keyOf t == y) = q) := ⟨_, Lib.hid rfl⟩
  rw [hq.out] at HC
  unfold isOf
  rw [hq.out]
  have HB := Lib.hid hbl
  obtain ⟨b1, b2, b3, b4, b5, b6, b7⟩ := t
  dsimp only [keyOf, encT, aggT, aggK] at HC hW g2 ⊢
  have c0 : W.cell? ⟨w.heap.size, 0, none⟩ = some (.int .i64 b1) := by rw [cell_of_row W _ 0 _ _ _ g2]; rfl
  have c1 : W.cell? ⟨w.heap.size, 1, none⟩ = some (.int .i64 b2) := by rw [cell_of_row W _ 1 _ _ _ g2]; rfl
  have c2 : W.cell? ⟨w.heap.size, 2, none⟩ = some (.int .i64 b3) := by rw [cell_of_row W _ 2 _ _ _ g2]; rfl
  have c3 : W.cell? ⟨w.heap.size, 3, none⟩ = some (.int .i64 b4) := by rw [cell_of_row W _ 3 _ _ _ g2]; rfl
  have c4 : W.cell? ⟨w.heap.size, 4, none⟩ = some (.int .i64 b5) := by rw [cell_of_row W _ 4 _ _ _ g2]; rfl
  have c5 : W.cell? ⟨w.heap.size, 5, none⟩ = some (.int .i64 b6) := by rw [cell_of_row W _ 5 _ _ _ g2]; rfl
  clear hr g2 hx hbl hq
  go_enter Try.func26, Try.ntmps26
  go_wp2_with (rw [hW.out])
  refine HC.out.mono ?_
  rintro e w1 ⟨rfl, hb1⟩
  go_wp2
  go_ret
  exact ⟨rfl, below2 HB.out hb1⟩
theorem bodied_stop1 : Bodied Try.prog 26 := fun _ _ => by kernel_rfl
theorem delete_func_nil (fn : FuncId) (cap : Array Value) (p : Tm → Bool) (w : World) (hbd : Bodied Try.prog fn) (hf : ToldE Try.prog fn cap p w []) :
    Calls Try.prog 25 #[.slice none 0 0, .func (.func fn) #[] cap] w fun e w' => e = .returned (.slice none 0 0) ∧ Below w.heap.size w w' := by
  have HI := Lib.hid (index_tm fn cap p none 0 0 [] w hbd ⟨rfl, by omega, by simp, fun h => absurd h (by omega)⟩ hf)
  unfold Bodied at hbd
  clear hf
  go_enter Try.func25, Try.ntmps25
  go_wp2_with fail
  refine HI.out.mono ?_
  rintro e w1 ⟨rfl, hb1⟩
  have hm : idx p [] = -1 := rfl
  rw [hm]
  go_wp2
  go_ret
  exact ⟨rfl, hb1⟩
theorem delete_func_any (fn : FuncId) (cap : Array Value) (p : Tm → Bool) (base : Nat) (v : Value) (L : List Tm) (w : World) (hbd : Bodied Try.prog fn) (h : w.ownsRow base TM 7 v L.length (L.flatMap encT)) (hf : ToldK Try.prog fn cap p v.ownBlock.toList w L) :
    Calls Try.prog 25 #[v, .func (.func fn) #[] cap] w fun e w' => ∃ A c, e = .returned (.slice A (L.filter fun x => !p x).length c) ∧
      w'.ownsRow base TM 7 (.slice A (L.filter fun x => !p x).length c) (L.filter fun x => !p x).length ((L.filter fun x => !p x).flatMap encT) ∧ Keep v.ownBlock.toList w w' ∧ (Value.slice A (L.filter fun x => !p x).length c).ownBlock = v.ownBlock := by
  have h2 := h
  rcases h.2 with ⟨rfl, hn⟩ | ⟨g, cap', cur, rfl, -, -, hnc, -⟩
  · obtain rfl : L = [] := List.eq_nil_of_length_eq_zero hn
    refine (delete_func_nil fn cap p w hbd hf.e).mono ?_
    rintro e w' ⟨rfl, hb⟩
    exact ⟨none, 0, rfl, own_kept h hb, .of_below hb, rfl⟩
  · refine (delete_func fn cap p base g cap' L.length L w hbd h rfl hf).mono ?_
    rintro e w' ⟨rfl, ho, hk⟩
    exact ⟨_, _, rfl, ho, hk, rfl⟩

/-- what a call of a wheel's leaves. -/
def Goes (b : Nat) (v : Value) (now : Int) (L : List Tm) (w w' : World) : Prop := ∃ v', Wh w' b now v' L ∧ Chg b v w v' w'
def dropT (ks : List Ky) (L : List Tm) : List Tm := L.filter fun x => !isOf ks x
theorem stop_nil (A : Option Addr) (n c : Nat) (w : World) : Calls Try.prog 10 #[.pointer none, .slice A n c] w fun e w' => e = .returned (.int .i64 0) ∧ Below w.heap.size w w' := by
  have hb := Lib.hid (below_alloc w (.cells #[.slice A n c] 35))
  go_enter Try.func10, Try.ntmps10
  go_wp2
  go_ret
  exact ⟨rfl, hb.out⟩
set_option maxHeartbeats 2000000 in
theorem stop_any (b : Nat) (now : Int) (v : Value) (L : List Tm) (A : Option Addr) (n c : Nat) (cs : List Ky) (w : World) (h : Wh w b now v L) (hsm : L.length ≤ 100000) (hr : RdE w A n 6 (cs.map encK)) (ho : 0 < n → ∀ o, A = some o → v.ownBlock ≠ some o.block) :
    Calls Try.prog 10 #[.pointer (some ⟨b, 0, none⟩), .slice A n c] w fun e w' => e = .returned (.int .i64 ((L.length : Int) - (dropT cs L).length)) ∧ Goes b v now (dropT cs L) w w' := by
  have hmf : ∀ (fn : Fn) (first cap : Array Value) (w : World), (Instr.makeFunc fn first cap).run Try.prog w = .ok (.func fn first cap) w := fun _ _ _ _ => rfl
  obtain ⟨W, hW⟩ : ∃ W, Hid (w.alloc (.cells #[.slice A n c] 35) = W) := ⟨_, Lib.hid rfl⟩
  have hb0 : Below w.heap.size w W := by rw [← hW.out]; exact below_alloc _ _
  have cl : W.cell? ⟨w.heap.size, 0, none⟩ = some (.slice A n c) := by rw [← hW.out]; exact cell_alloc w _ _ 0
  have HW := h.below hb0
  have hnx : ∀ S, S = v.ownBlock.toList → w.heap.size ∉ S := fun S hS hm => by subst hS; have := (h.ne w.heap.size (by simpa using hm)).2; omega
  have told : ToldK Try.prog 26 #[.pointer (some ⟨w.heap.size, 0, none⟩)] (fun e => isOf cs e) v.ownBlock.toList W L := fun x hx w1 hk =>
    stop1 w.heap.size A n c cs x w1 (keep_cell hk cl (hnx _ rfl)) ((hr.below hb0).keep hk fun h0 o hA hm => ho h0 o hA (by simpa using hm))
  have HD := Lib.hid (delete_func_any _ _ _ (b + 1) v L W bodied_stop1 HW.own told)
  obtain ⟨c0, c1, f0, f1⟩ := HW.cell
  have hlt := h.lt
  have hvl : ∃ A0 c0, v = .slice A0 L.length c0 := by obtain ⟨A0, c0, e, _⟩ := h.rd; exact ⟨A0, c0, e⟩
  obtain ⟨A0, cc0, hv0⟩ := hvl
  have hbk : b ∉ v.ownBlock.toList := fun hm => by have := (h.ne b (by simpa using hm)).1; omega
  have HBLK := Lib.hid HW.blk
  have HB := Lib.hid hb0
  obtain ⟨D, hD⟩ : ∃ D, Hid (dropT cs L = D) := ⟨_, Lib.hid rfl⟩
  have hDD : (L.filter fun x => !(fun e : Tm => isOf cs e) x) = D := hD.out
  have hDl : D.length ≤ L.length := by rw [← hD.out]; exact List.length_filter_le _ _
  rw [hD.out]
  rw [hDD] at HD
  obtain ⟨n1, hn1⟩ : ∃ n1, L.length = n1 := ⟨_, rfl⟩
  obtain ⟨n2, hn2⟩ : ∃ n2, D.length = n2 := ⟨_, rfl⟩
  have HN2 := Lib.hid hn2
  rw [hn1] at hv0 hDl hsm ⊢
  rw [hn2] at hDl HD ⊢
  clear told hr ho h hnx HW hb0 cl hDD hn1 hn2
  rw [hv0] at c1
  have HV0 := Lib.hid hv0
  rw [hv0] at HD
  go_enter Try.func10, Try.ntmps10
  go_wp2_with (rw [hW.out])
  refine HD.out.mono ?_
  rintro e w1 ⟨A1, cc1, rfl, ho1, hk1, hb1⟩
  rw [← HV0.out] at hk1 hb1
  have d1 := keep_cell hk1 c1 hbk
  have g1 : w1.frozen? ⟨b, 1, none⟩ = false := (hk1.frozen (by have := HB.out.size; show b < _; omega) hbk).trans f1
  have hbl := Lib.hid (keep_block hk1 HBLK.out hbk)
  have HO := Lib.hid ho1
  have HK := Lib.hid hk1
  have HB1 := Lib.hid hb1
  clear ho1 hk1 hb1
  go_wp2_with fail
  go_ret
  have hk2 : Keep [b] w1 (w1.setCell ⟨b, 1, none⟩ (.slice A1 n2 cc1)) := (Keep.refl _ _).setCell (p := ⟨b, 1, none⟩) (.inl (by simp)) _
  refine ⟨rfl, .slice A1 n2 cc1, ⟨(Go.Proofs.Ytbifmdepkbgnjaa.L.heap_setCell_at w1 b 1 _ _ _ _ hbl.out).trans rfl, ?_⟩, ?_, .inl HB1.out⟩
  · rw [HN2.out]
    exact own_keep HO.out hk2 (fun k hk => by have := (own_lt HO.out k hk).1; simp; omega)
  · exact ((Keep.of_below HB.out).trans (HK.out.mono fun x hx => List.mem_cons_of_mem _ hx)).trans (hk2.mono (by simp))

end Go.Proofs.Ytbifmdepkbgnjaa.Wh

/- cache: the state of a law's walk; awake. -/
import Derived.Test.YtbdcgfdchkbcnaaCaH
namespace Go.Proofs.Ytbdcgfdchkbcnaa.Ca
open Go.RowKit Go.Proofs.Ytbdcgfdchkbcnaa.L Go.Proofs.Ytbdcgfdchkbcnaa.R Go.Proofs.Ytbdcgfdchkbcnaa.A Go.Proofs.Ytbdcgfdchkbcnaa.S Go.Proofs.Ytbdcgfdchkbcnaa.T Go.Proofs.Ytbdcgfdchkbcnaa.C Go.Proofs.Ytbdcgfdchkbcnaa.G Go.Proofs.Ytbdcgfdchkbcnaa.E Go.Proofs.Ytbdcgfdchkbcnaa.F
set_option linter.unusedVariables false
set_option linter.unusedSimpArgs false

/-- a cache that was made in this call. -/
structure CS (w0 W : World) (b room : Nat) (L : List Ent) : Prop where
  ca : ∃ v, Ca CT ET W b room v L
  base : w0.heap.size ≤ b
  bel : Below w0.heap.size w0 W
theorem CS.goes {w0 W W' : World} {b room : Nat} {L L' : List Ent} {v : Value} (h : CS w0 W b room L) (hv : Ca CT ET W b room v L) (hg : Goes b room v L' W W') : CS w0 W' b room L' := by
  obtain ⟨v', hc, hch⟩ := hg
  refine ⟨⟨v', hc⟩, h.base, h.bel.trans (hch.keep.below h.bel.size fun x hx => ?_)⟩
  rcases List.mem_cons.1 hx with rfl | hx
  · exact h.base
  · have := (hv.ne x (by simpa using hx)).1
    have := h.base
    omega
theorem CS.below {w0 W W' : World} {b room : Nat} {L : List Ent} (h : CS w0 W b room L) (hb : Below W.heap.size W W') : CS w0 W' b room L := by
  obtain ⟨v, hv⟩ := h.ca
  exact ⟨⟨v, hv.below hb⟩, h.base, h.bel.trans (hb.mono h.bel.size)⟩
theorem CS.lt {w0 W : World} {b room : Nat} {L : List Ent} (h : CS w0 W b room L) : b < W.heap.size := by obtain ⟨v, hv⟩ := h.ca; exact hv.lt
theorem cs_new (w0 W : World) (hb : Below w0.heap.size w0 W) (room : Nat) (h1 : 0 < room) (h2 : room ≤ 16) :
    Calls Try.prog 48 #[.int .i64 room] W fun e w' => ∃ b, e = .returned (.tuple #[.pointer (some ⟨b, 0, none⟩), .int .i64 0]) ∧ CS w0 w' b room [] ∧ W.heap.size ≤ b ∧ Below W.heap.size W w' := by
  refine (new_ok room W h1 h2).mono ?_
  rintro e w' ⟨rfl, hc, hlt, hb'⟩
  exact ⟨_, rfl, ⟨⟨_, hc⟩, hb.size, hb.trans (hb'.mono hb.size)⟩, Nat.le_refl _, hb'⟩
/-- entries that lie in memory which was there ahead of the call, or is new. -/
theorem cs_puts {w0 W0 W : World} {b room : Nat} {L : List Ent} (h : CS w0 W0 b room L) (hW : Below W0.heap.size W0 W) (hL : L.length ≤ room) (h0 : 0 < room) (h1 : room ≤ 100000) (A : Option Addr) (n c : Nat) (es : List Ent) (hr : RdE W A n 4 (es.map encE)) (ho : 0 < n → ∀ o, A = some o → o.block < w0.heap.size ∨ W0.heap.size ≤ o.block) :
    Calls Try.prog 49 #[.pointer (some ⟨b, 0, none⟩), .slice A n c] W fun e w' => e = .returned (.int .i64 ((putsL room es L).2 : Int)) ∧ CS w0 w' b room (putsL room es L).1 := by
  obtain ⟨v, hv⟩ := h.ca
  have hlt := hv.lt
  refine (puts_any b room v L A n c es W (hv.below hW) hL h0 h1 hr fun hn o hA => ?_).mono ?_
  · have hw := hr.lt (by decide) hn o hA
    refine ⟨hw, ?_, fun hk => ?_⟩
    · have := h.base
      rcases ho hn o hA with h' | h' <;> omega
    · have := hv.ne _ hk
      have := h.base
      rcases ho hn o hA with h' | h' <;> omega
  · rintro e w' ⟨rfl, hg⟩
    exact ⟨rfl, (h.below hW).goes (hv.below hW) hg⟩
/-- one entry, in a new block. -/
theorem cs_put1 {w0 W : World} {b room : Nat} {L : List Ent} (h : CS w0 W b room L) (hL : L.length ≤ room) (h0 : 0 < room) (h1 : room ≤ 100000) (z : Ent) {W1 : World} (h1' : W1 = W.alloc (.cells #[.int .i64 z.1, .int .i64 z.2.1, .int .i64 z.2.2.1, .int .i64 z.2.2.2] 77)) :
    Calls Try.prog 49 #[.pointer (some ⟨b, 0, none⟩), .slice (some ⟨W.heap.size, 0, none⟩) 1 1] W1 fun e w' => e = .returned (.int .i64 (if (putL room z L).2 then 1 else 0)) ∧ CS w0 w' b room (putL room z L).1 := by
  have hb : Below W.heap.size W W1 := by rw [h1']; exact below_alloc _ _
  have hr : RdE W1 (some ⟨W.heap.size, 0, none⟩) 1 4 ([z].map encE) := by
    refine ⟨rfl, by omega, by simp [encE], fun _ => ⟨_, _, rfl, fun i hi j hj => ?_⟩⟩
    obtain rfl : i = 0 := by omega
    rw [h1']
    simp only [Nat.zero_mul, Nat.zero_add]
    rw [cell_alloc]
    rcases (by omega : j = 0 ∨ j = 1 ∨ j = 2 ∨ j = 3) with rfl | rfl | rfl | rfl <;> rfl
  refine (cs_puts h hb hL h0 h1 _ 1 1 [z] hr fun _ o ho => .inr ?_).mono ?_
  · injection ho with ho; subst ho; exact Nat.le_refl _
  · rintro e w' ⟨rfl, hc⟩
    refine ⟨?_, by simpa [putsL] using hc⟩
    simp only [putsL, Nat.add_zero]
    cases (putL room z L).2 <;> rfl
theorem cs_get {w0 W : World} {b room : Nat} {L : List Ent} (h : CS w0 W b room L) (hL : L.length ≤ 100000) (c : Int) :
    Calls Try.prog 53 #[.pointer (some ⟨b, 0, none⟩), .int .i64 c] W fun e w' => e = .returned (.tuple #[aggE (peekL c L).1, .bool (peekL c L).2]) ∧ CS w0 w' b room (getL c L) := by
  obtain ⟨v, hv⟩ := h.ca
  refine (get_any b room v L c W hv hL).mono ?_
  rintro e w' ⟨rfl, hg⟩
  exact ⟨rfl, h.goes hv hg⟩
theorem cs_peek {w0 W : World} {b room : Nat} {L : List Ent} (h : CS w0 W b room L) (hL : L.length ≤ 100000) (c : Int) :
    Calls Try.prog 50 #[.pointer (some ⟨b, 0, none⟩), .int .i64 c] W fun e w' => e = .returned (.tuple #[aggE (peekL c L).1, .bool (peekL c L).2]) ∧ CS w0 w' b room L ∧ Below W.heap.size W w' := by
  obtain ⟨v, hv⟩ := h.ca
  refine (peek_any b room v L c W hv hL).mono ?_
  rintro e w' ⟨rfl, hb⟩
  exact ⟨rfl, h.below hb, hb⟩
theorem cs_stale {w0 W : World} {b room : Nat} {L : List Ent} (h : CS w0 W b room L) (hL : L.length ≤ 100000) (c x : Int) :
    Calls Try.prog 54 #[.pointer (some ⟨b, 0, none⟩), .int .i64 c, .int .i64 x] W fun e w' => e = .returned (.bool (staleL c x L).2) ∧ CS w0 w' b room (staleL c x L).1 := by
  obtain ⟨v, hv⟩ := h.ca
  refine (stale_any b room v L c x W hv hL).mono ?_
  rintro e w' ⟨rfl, hg⟩
  exact ⟨rfl, h.goes hv hg⟩
theorem cs_drop {w0 W : World} {b room : Nat} {L : List Ent} (h : CS w0 W b room L) (hL : L.length ≤ 100000) (A : Option Addr) (n c : Nat) (cs : List Int) (hr : Rd W A n (cs.map (Value.int .i64))) (ho : 0 < n → ∀ o, A = some o → o.block < w0.heap.size) :
    Calls Try.prog 55 #[.pointer (some ⟨b, 0, none⟩), .slice A n c] W fun e w' => e = .returned (.int .i64 ((L.length : Int) - (dropL cs L).length)) ∧ CS w0 w' b room (dropL cs L) := by
  obtain ⟨v, hv⟩ := h.ca
  refine (drop_any b room v L A n c cs W hv hL hr fun hn o hA hk => ?_).mono ?_
  · have := ho hn o hA
    have := (hv.ne _ hk).1
    have := h.base
    omega
  · rintro e w' ⟨rfl, hg⟩
    exact ⟨rfl, h.goes hv hg⟩
theorem cs_all {w0 W : World} {b room : Nat} {L : List Ent} (h : CS w0 W b room L) (hL : L.length ≤ 1000000) :
    Calls Try.prog 51 #[.pointer (some ⟨b, 0, none⟩)] W fun e w' => ∃ A c, e = .returned (.slice A L.length c) ∧ RdE w' A L.length 4 (L.map encE) ∧ (∀ o, A = some o → W.heap.size ≤ o.block) ∧ CS w0 w' b room L ∧ Below W.heap.size W w' := by
  obtain ⟨v, hv⟩ := h.ca
  refine (all_any b room v L W hv hL).mono ?_
  rintro e w' ⟨u, rfl, ho, hb⟩
  obtain ⟨A, c, rfl, hr, hA, _⟩ := own_rdE ho encE_len rfl
  exact ⟨A, c, rfl, hr, hA, h.below hb, hb⟩
set_option maxHeartbeats 2000000 in
theorem awake_any (w : World) : Calls Try.prog 47 #[] w fun e w' => e = .returned (.bool true) ∧ Below w.heap.size w w' := by
  have HN := Lib.hid (cs_new w w (Below.refl _ _) 2 (by decide) (by decide))
  go_enter Try.func47, Try.ntmps47
  go_wp2_with fail
  refine HN.out.mono ?_
  rintro e w1 ⟨b, rfl, hc1, hlb, hb1⟩
  have H1 := Lib.hid hc1
  obtain ⟨W1, hW1⟩ : ∃ W1, Hid (w1.alloc (.cells #[.int .i64 1, .int .i64 0, .int .i64 0, .int .i64 0, .int .i64 2, .int .i64 0, .int .i64 0, .int .i64 0] 77) = W1) := ⟨_, Lib.hid rfl⟩
  have hbW : Below w1.heap.size w1 W1 := by rw [← hW1.out]; exact below_alloc _ _
  have hr : RdE W1 (some ⟨w1.heap.size, 0, none⟩) 2 4 ([((1, 0, 0, 0) : Ent), (2, 0, 0, 0)].map encE) := by
    refine ⟨rfl, by omega, by simp [encE], fun _ => ⟨_, _, rfl, fun i hi j hj => ?_⟩⟩
    rw [← hW1.out, Nat.zero_add, cell_alloc]
    rcases (by omega : i = 0 ∨ i = 1) with rfl | rfl <;> rcases (by omega : j = 0 ∨ j = 1 ∨ j = 2 ∨ j = 3) with rfl | rfl | rfl | rfl <;> rfl
  have hp := cs_puts hc1 hbW (by simp) (by decide) (by decide) (some ⟨w1.heap.size, 0, none⟩) 2 2 _ hr (fun _ o ho => .inr (by injection ho with ho; subst ho; exact Nat.le_refl _))
  have e1 : putsL 2 [((1, 0, 0, 0) : Ent), (2, 0, 0, 0)] [] = ([(1, 0, 0, 0), (2, 0, 0, 0)], 2) := by decide
  rw [e1] at hp
  have HP := Lib.hid hp
  clear hp hr hbW hc1 hb1 e1
  go_wp2_with (rw [hW1.out])
  refine HP.out.mono ?_
  rintro e w2 ⟨rfl, hc2⟩
  have hg := cs_get hc2 (by decide) 1
  rw [show getL 1 [((1, 0, 0, 0) : Ent), (2, 0, 0, 0)] = [(2, 0, 0, 0), (1, 0, 0, 0)] by decide] at hg
  have HG := Lib.hid hg
  clear hg hc2
  go_wp2_with fail
  refine HG.out.mono ?_
  rintro e w3 ⟨rfl, hc3⟩
  have hp := cs_put1 hc3 (by decide) (by decide) (by decide) (3, 0, 0, 0) rfl
  rw [show putL 2 ((3, 0, 0, 0) : Ent) [(2, 0, 0, 0), (1, 0, 0, 0)] = ([(1, 0, 0, 0), (3, 0, 0, 0)], true) by decide] at hp
  have HP3 := Lib.hid hp
  clear hp hc3
  go_wp2_with fail
  refine HP3.out.mono ?_
  rintro e w4 ⟨rfl, hc4⟩
  have hp := cs_peek hc4 (by decide) 1
  rw [show peekL 1 [((1, 0, 0, 0) : Ent), (3, 0, 0, 0)] = ((1, 0, 0, 0), true) by decide] at hp
  have HP4 := Lib.hid hp
  clear hp hc4
  dsimp only [aggE] at HP4
  go_wp2_with fail
  refine HP4.out.mono ?_
  rintro e w5 ⟨rfl, hc5, -⟩
  have hc6 := hc5.below (below_alloc w5 (.cells #[.int .i64 1, .int .i64 0, .int .i64 0, .int .i64 0] 77))
  have hp := cs_peek hc6 (by decide) 2
  rw [show peekL 2 [((1, 0, 0, 0) : Ent), (3, 0, 0, 0)] = (z0, false) by decide] at hp
  have HP5 := Lib.hid hp
  clear hp hc5 hc6
  dsimp only [aggE, z0] at HP5
  go_wp2_with fail
  refine HP5.out.mono ?_
  rintro e w6 ⟨rfl, hc7, -⟩
  have HB := Lib.hid (hc7.below (below_alloc w6 (.cells #[.int .i64 0, .int .i64 0, .int .i64 0, .int .i64 0] 77))).bel
  clear hc7
  go_wp2
  go_ret
  exact ⟨rfl, HB.out⟩
end Go.Proofs.Ytbdcgfdchkbcnaa.Ca

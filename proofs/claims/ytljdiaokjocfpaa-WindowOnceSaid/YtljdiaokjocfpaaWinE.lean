/- WindowPlays walked. -/
import Derived.Test.YtljdiaokjocfpaaWinD
namespace Go.Proofs.Ytljdiaokjocfpaa.Win
open Go.RowKit Go.Proofs.Ytljdiaokjocfpaa.L Go.Proofs.Ytljdiaokjocfpaa.A Go.Proofs.Ytljdiaokjocfpaa.R Go.Proofs.Ytljdiaokjocfpaa.S
set_option linter.unusedVariables false
set_option linter.unusedSimpArgs false

/-- the window and the document's. -/
structure Both (w W : World) (s : Nat) (g x : Nat) (L : List Int) : Prop where
  low : Below s w W
  win : Win W s g x
  ref : ∃ A c, Ref W (s + 1) L A c
theorem Both.below {w W W1 : World} {s g x : Nat} {L : List Int} (h : Both w W s g x L) (hb : Below W.heap.size W W1) : Both w W1 s g x L := by
  obtain ⟨A, c, hr⟩ := h.ref
  exact ⟨h.low.trans (hb.mono (Nat.le_of_lt h.win.lt)), h.win.below hb, A, c, hr.below hb⟩
theorem Both.keep {w W W1 : World} {s g x g1 x1 : Nat} {L : List Int} (h : Both w W s g x L) (hk : Keep [s] W W1) (hw : Win W1 s g1 x1) : Both w W1 s g1 x1 L := by
  obtain ⟨A, c, hr⟩ := h.ref
  exact ⟨h.low.trans (hk.below (Nat.le_of_lt h.win.lt) (by simp)), hw, A, c, hr.keep hk (by simp) (by simp)⟩
def nextL (L : List Int) (n : Int) : List Int := if refB L n then L else L ++ [n]
theorem both_rsee {w W : World} {s g x : Nat} {L : List Int} (h : Both w W s g x L) (n : Int) (hl : L.length < 1000) (hn : -9223372036854775808 ≤ n ∧ n ≤ 9223372036854775807) (r : Bool) (L' : List Int) (hr : refB L n = r) (hL : nextL L n = L') :
    Calls Try.prog 22 #[.pointer (some ⟨s + 1, 0, none⟩), .int .i64 n] W fun e w' => e = .returned (.bool (!r)) ∧ Both w w' s g x L' := by
  obtain ⟨A, c, hR⟩ := h.ref
  subst hr
  subst hL
  refine (rsee_any (s + 1) L n A c W hR hl hn).mono ?_
  rintro e w' ⟨he, hr', hb⟩
  exact ⟨he, h.low.trans (hb.mono (Nat.le_succ _)), (hb.block s (Nat.lt_succ_self _)).trans h.win, hr'⟩
theorem both_see {w W : World} {s g x : Nat} {L : List Int} (h : Both w W s g x L) (B : Nat) (hB : W.heap.size = B) (n : Int) (g1 x1 f : Nat) (hok : (St.mk g x 0).ok) (hn : -9223372036854775808 ≤ n ∧ n ≤ 9223372036854775807) (hres : (St.mk g x 0).all [n] = ⟨g1, x1, f⟩) :
    Calls Try.prog 20 #[.pointer (some ⟨s, 0, none⟩), .slice (some ⟨B, 0, none⟩) 1 1] (W.alloc (.cells #[.int .i64 n] 3)) fun e w' => e = .returned (.int .i64 f) ∧ Both w w' s g1 x1 L := by
  subst hB
  refine (See_row s g x g1 x1 f [n] 1 W h.win hok rfl (by decide) (rng1 n hn) hres).mono ?_
  rintro e w' ⟨he, hW, hk⟩
  exact ⟨he, h.keep hk hW⟩
theorem both_seeall {w W : World} {s g x : Nat} {L : List Int} (h : Both w W s g x L) (A : Option Addr) (n c : Nat) (l : List Int) (hs : s ≤ w.heap.size) (hr : Rd W A n (l.map (Value.int .i64))) (hA : 0 < n → ∀ o, A = some o → o.block ≠ s) (hok : (St.mk g x 0).ok) (hl : ∀ z ∈ l, -9223372036854775808 ≤ z ∧ z ≤ 9223372036854775807) :
    Calls Try.prog 20 #[.pointer (some ⟨s, 0, none⟩), .slice A n c] W fun e w' => e = .returned (.int .i64 (((St.mk g x 0).all l).fresh : Nat)) ∧ ∃ g1 x1, Both w w' s g1 x1 L := by
  refine (See_any s g x A n c l W h.win hok hr hA hl).mono ?_
  rintro e w' ⟨he, hW, hk⟩
  exact ⟨he, _, _, h.keep hk hW⟩
theorem both_clear {w W : World} {s g x : Nat} {L : List Int} (h : Both w W s g x L) :
    Calls Try.prog 21 #[.pointer (some ⟨s, 0, none⟩)] W fun e w' => e = .returned (.tuple #[]) ∧ Both w w' s 0 0 L := by
  refine (clear_any s g x W h.win).mono ?_
  rintro e w' ⟨he, hW, hk⟩
  exact ⟨he, h.keep hk hW⟩
theorem both_greatest {w W : World} {s g x : Nat} {L : List Int} (h : Both w W s g x L) :
    Calls Try.prog 23 #[.pointer (some ⟨s, 0, none⟩)] W fun e w' => e = .returned (.int .i64 g) ∧ W = w' := greatest_any s g x W h.win
theorem both_rgreatest {w W : World} {s g x : Nat} {L : List Int} (h : Both w W s g x L) (hi : Inv g x L) :
    Calls Try.prog 24 #[.pointer (some ⟨s + 1, 0, none⟩)] W fun e w' => e = .returned (.int .i64 g) ∧ W = w' := by
  obtain ⟨A, c, hR⟩ := h.ref
  rw [hi.grt]
  exact rgreatest_any (s + 1) L A c W hR
theorem both_seen {w W : World} {s g x : Nat} {L : List Int} (h : Both w W s g x L) (hi : Inv g x L) (n : Int) (r : Bool) (hr : refB L n = r) (hn : -9223372036854775808 ≤ n ∧ n ≤ 9223372036854775807) :
    Calls Try.prog 25 #[.pointer (some ⟨s, 0, none⟩), .int .i64 n] W fun e w' => e = .returned (.bool r) ∧ Both w w' s g x L := by
  refine (seen_any s g x n W h.win hi.g_le hi.lt hn).mono ?_
  rintro e w' ⟨he, hb⟩
  exact ⟨by rw [he, hi.seen, hr], h.below hb⟩
theorem both_rseen {w W : World} {s g x : Nat} {L : List Int} (h : Both w W s g x L) (n : Int) (r : Bool) (hr : refB L n = r) (hn : -9223372036854775808 ≤ n ∧ n ≤ 9223372036854775807) :
    Calls Try.prog 26 #[.pointer (some ⟨s + 1, 0, none⟩), .int .i64 n] W fun e w' => e = .returned (.bool r) ∧ W = w' := by
  obtain ⟨A, c, hR⟩ := h.ref
  subst hr
  exact rseen_any (s + 1) L n A c W hR hn
theorem both_new (w : World) : Both w ((w.alloc (.cells #[.int .i64 0, .int .u64 0] 38)).alloc (.cells #[.slice none 0 0] 41)) w.heap.size 0 0 [] := by
  refine ⟨((Below.refl _ _).alloc (Nat.le_refl _) _).alloc (by simp) _, (win_new w).alloc _, none, 0, ?_, World.ownsRow_nil _ _ _ _, rd_nil _ _, by simp⟩
  have := heap_alloc_new (w.alloc (.cells #[.int .i64 0, .int .u64 0] 38)) (.cells #[.slice none 0 0] 41)
  simpa using this
/-- one round: what it makes of both. -/
theorem round_true {g x : Nat} {L : List Int} (h : Inv g x L) {n : Int} (hr : refB L n = true) : nextL L n = L ∧ (St.mk g x 0).all [n] = ⟨g, x, 0⟩ := by
  refine ⟨by simp [nextL, hr], ?_⟩
  rw [all_one, h.seen, hr]; rfl
theorem round_false {g x : Nat} {L : List Int} (h : Inv g x L) {n : Int} (hr : refB L n = false) : ∃ g1 x1, nextL L n = L ++ [n] ∧ (St.mk g x 0).all [n] = ⟨g1, x1, 1⟩ ∧ Inv g1 x1 (L ++ [n]) := by
  refine ⟨max g n.toNat, seeX g x n.toNat, by simp [nextL, hr], ?_, ?_⟩
  · rw [all_one, h.seen, hr]; rfl
  · have hs : seenB g x n = false := by rw [h.seen, hr]
    have hn := seen_false hs
    obtain ⟨m, rfl⟩ : ∃ m : Nat, n = m := ⟨n.toNat, by omega⟩
    exact h.see m hs
theorem rd_block {w : World} {A : Option Addr} {n : Nat} {xs : List Value} (h : Rd w A n xs) (h0 : 0 < n) : ∀ o, A = some o → o.block < w.heap.size := by
  intro o ho
  obtain ⟨b, o', e, hc⟩ := h.2.2 h0
  have h1 := hc 0 h0
  rw [List.getElem?_eq_getElem (by rw [h.len]; exact h0)] at h1
  have := World.block_lt_of_cell? w _ h1
  rw [e] at ho
  cases ho
  exact this
set_option maxHeartbeats 2000000 in
theorem plays_any (A B : Option Addr) (na ca nb cb : Nat) (la lb : List Int) (clear : Bool) (w : World) (ha : Rd w A na (la.map (Value.int .i64))) (hb : Rd w B nb (lb.map (Value.int .i64)))
    (ra : ∀ z ∈ la, -9223372036854775808 ≤ z ∧ z ≤ 9223372036854775807) (rb : ∀ z ∈ lb, -9223372036854775808 ≤ z ∧ z ≤ 9223372036854775807) :
    Calls Try.prog 7 #[.slice A na ca, .slice B nb cb, .bool clear] w fun e w' => e = .returned (.bool true) ∧ Below w.heap.size w w' := by
  have hna := ha.2.1
  have hnb := hb.2.1
  by_cases a1 : 200 < na
  · go_enter Try.func7, Try.ntmps7
    go_wp2_with fail
    refine (awake_any w).mono ?_
    rintro e w1 ⟨rfl, hb1⟩
    go_wp2
    go_ret
    exact ⟨rfl, hb1⟩
  by_cases a2 : 200 < nb
  · go_enter Try.func7, Try.ntmps7
    go_wp2_with fail
    refine (awake_any w).mono ?_
    rintro e w1 ⟨rfl, hb1⟩
    go_wp2
    go_ret
    exact ⟨rfl, hb1⟩
  have HA := Lib.hid ha
  have HB := Lib.hid hb
  have RA := Lib.hid ra
  have RB := Lib.hid rb
  clear ha hb ra rb
  cases clear
  · go_enter Try.func7, Try.ntmps7
    go_wp2_with fail
    refine (awake_any w).mono ?_
    rintro e w1 ⟨rfl, hb1⟩
    have hbo := both_new w1
    have ha1 := Lib.hid (HA.out.below hb1)
    have hb1_ := Lib.hid (HB.out.below hb1)
    go_wp2_with fail
    go_loopw [10, 11, 32] (fun n f i wr => ∃ (k g x : Nat) (L : List Int), k ≤ na ∧ i = .int .i64 k ∧ Both w1 wr w1.heap.size g x L ∧ Inv g x L ∧ L.length ≤ k) (fun _ _ i _ => na - (intOf i).toNat)
    case atStart => exact ⟨0, 0, 0, [], by omega, rfl, hbo, Inv.nil, by simp⟩
    case round =>
      obtain ⟨k, g, x, L, hk, rfl, hB, hI, hL⟩ := hrel
      by_cases hlt : k < na
      · have hr := ha1.out.below hB.low
        obtain ⟨ab, ao, hA, hc⟩ := hr.2.2 (by omega)
        have hkl : k < la.length := by have := hr.len; simp at this; omega
        subst hA
        obtain ⟨z, hz⟩ : ∃ z : Int, Hid (z = la[k]) := ⟨_, Lib.hid rfl⟩
        have hcell := hc k hlt
        rw [List.getElem?_map, List.getElem?_eq_getElem hkl, ← hz.out] at hcell
        simp only [Option.map_some] at hcell
        have hzb := RA.out z (by rw [hz.out]; exact List.getElem_mem _)
        have HZ := Lib.hid hzb
        clear hc hr hzb
        cases hr : refB L z with
        | true =>
          obtain ⟨e1, e2⟩ := round_true hI hr
          have HE := Lib.hid (And.intro e1 e2)
          have HR := Lib.hid hr
          clear e1 e2 hr
          go_wp2_with fail
          refine (both_rsee hB z (by omega) HZ.out _ _ HR.out HE.out.1).mono ?_
          rintro e w2 ⟨rfl, hB2⟩
          go_wp2_with fail
          refine (both_see hB2 _ rfl z g x 0 (hI.ok 0) HZ.out HE.out.2).mono ?_
          rintro e w3 ⟨rfl, hB3⟩
          go_wp2_with fail
          refine (both_greatest hB3).mono ?_
          rintro e w4 ⟨rfl, rfl⟩
          go_wp2_with fail
          refine (both_rgreatest hB3 hI).mono ?_
          rintro e w4 ⟨rfl, rfl⟩
          go_wp2
          go_roundw
          case rel => exact ⟨k + 1, g, x, L, by omega, by go_num, hB3, hI, by omega⟩
          case measure => simp [intOf]; omega
        | false =>
          obtain ⟨g1, x1, e1, e2, hI1⟩ := round_false hI hr
          have HE := Lib.hid (And.intro e1 e2)
          have HR := Lib.hid hr
          clear e1 e2 hr
          go_wp2_with fail
          refine (both_rsee hB z (by omega) HZ.out _ _ HR.out HE.out.1).mono ?_
          rintro e w2 ⟨rfl, hB2⟩
          go_wp2_with fail
          refine (both_see hB2 _ rfl z g1 x1 1 (hI.ok 0) HZ.out HE.out.2).mono ?_
          rintro e w3 ⟨rfl, hB3⟩
          go_wp2_with fail
          refine (both_greatest hB3).mono ?_
          rintro e w4 ⟨rfl, rfl⟩
          go_wp2_with fail
          refine (both_rgreatest hB3 hI1).mono ?_
          rintro e w4 ⟨rfl, rfl⟩
          go_wp2
          go_roundw
          case rel => exact ⟨k + 1, g1, x1, L ++ [z], by omega, by go_num, hB3, hI1, by simp; omega⟩
          case measure => simp [intOf]; omega
      · have hke : k = na := by omega
        subst hke
        clear hlt hk hbo
        go_wp2
        go_loopw [13, 53] (fun n i wr => ∃ k : Nat, k ≤ nb ∧ i = .int .i64 k ∧ Both w1 wr w1.heap.size g x L) (fun _ i _ => nb - (intOf i).toNat)
        case atStart => exact ⟨0, by omega, rfl, hB⟩
        case round =>
          obtain ⟨j, hj, rfl, hC⟩ := hrel
          by_cases hlt : j < nb
          · have hr := hb1_.out.below hC.low
            obtain ⟨ab, ao, hA, hc⟩ := hr.2.2 (by omega)
            have hjl : j < lb.length := by have := hr.len; simp at this; omega
            subst hA
            obtain ⟨z, hz⟩ : ∃ z : Int, Hid (z = lb[j]) := ⟨_, Lib.hid rfl⟩
            have hcell := hc j hlt
            rw [List.getElem?_map, List.getElem?_eq_getElem hjl, ← hz.out] at hcell
            simp only [Option.map_some] at hcell
            have hzb := RB.out z (by rw [hz.out]; exact List.getElem_mem _)
            have HZ := Lib.hid hzb
            clear hc hr hzb
            obtain ⟨r, hr⟩ : ∃ r, Hid (refB L z = r) := ⟨_, Lib.hid rfl⟩
            go_wp2_with fail
            refine (both_seen hC hI z r hr.out HZ.out).mono ?_
            rintro e w2 ⟨rfl, hC2⟩
            go_wp2_with fail
            refine (both_rseen hC2 z r hr.out HZ.out).mono ?_
            rintro e w3 ⟨rfl, rfl⟩
            go_wp2
            go_roundw
            case rel => exact ⟨j + 1, by omega, by go_num, hC2⟩
            case measure => simp [intOf]; omega
          · clear hj
            go_wp2
            go_ret
            exact ⟨rfl, below2 hb1 hC.low⟩
  · go_enter Try.func7, Try.ntmps7
    go_wp2_with fail
    refine (awake_any w).mono ?_
    rintro e w1 ⟨rfl, hb1⟩
    have hbo := both_new w1
    have ha1 := Lib.hid (HA.out.below hb1)
    have hb1_ := Lib.hid (HB.out.below hb1)
    go_wp2_with fail
    refine (both_seeall hbo A na ca la (Nat.le_refl _) ((ha1.out.below ((Below.refl _ _).alloc (Nat.le_refl _) _)).below ((Below.refl _ _).alloc (Nat.le_refl _) _)) (fun h0 o ho => Nat.ne_of_lt (Nat.lt_of_lt_of_le (rd_block HA.out h0 o ho) hb1.size)) ok0 RA.out).mono ?_
    rintro e w2 ⟨rfl, g2, x2, hbo2⟩
    go_wp2_with fail
    refine (both_clear hbo2).mono ?_
    rintro e w3 ⟨rfl, hbo3⟩
    clear hbo hbo2
    rename Both w1 w3 _ _ _ _ => hbo
    go_wp2_with fail
    go_loopw [10, 11, 32] (fun n f i wr => ∃ (k g x : Nat) (L : List Int), k ≤ na ∧ i = .int .i64 k ∧ Both w1 wr w1.heap.size g x L ∧ Inv g x L ∧ L.length ≤ k) (fun _ _ i _ => na - (intOf i).toNat)
    case atStart => exact ⟨0, 0, 0, [], by omega, rfl, hbo, Inv.nil, by simp⟩
    case round =>
      obtain ⟨k, g, x, L, hk, rfl, hB, hI, hL⟩ := hrel
      by_cases hlt : k < na
      · have hr := ha1.out.below hB.low
        obtain ⟨ab, ao, hA, hc⟩ := hr.2.2 (by omega)
        have hkl : k < la.length := by have := hr.len; simp at this; omega
        subst hA
        obtain ⟨z, hz⟩ : ∃ z : Int, Hid (z = la[k]) := ⟨_, Lib.hid rfl⟩
        have hcell := hc k hlt
        rw [List.getElem?_map, List.getElem?_eq_getElem hkl, ← hz.out] at hcell
        simp only [Option.map_some] at hcell
        have hzb := RA.out z (by rw [hz.out]; exact List.getElem_mem _)
        have HZ := Lib.hid hzb
        clear hc hr hzb
        cases hr : refB L z with
        | true =>
          obtain ⟨e1, e2⟩ := round_true hI hr
          have HE := Lib.hid (And.intro e1 e2)
          have HR := Lib.hid hr
          clear e1 e2 hr
          go_wp2_with fail
          refine (both_rsee hB z (by omega) HZ.out _ _ HR.out HE.out.1).mono ?_
          rintro e w2 ⟨rfl, hB2⟩
          go_wp2_with fail
          refine (both_see hB2 _ rfl z g x 0 (hI.ok 0) HZ.out HE.out.2).mono ?_
          rintro e w3 ⟨rfl, hB3⟩
          go_wp2_with fail
          refine (both_greatest hB3).mono ?_
          rintro e w4 ⟨rfl, rfl⟩
          go_wp2_with fail
          refine (both_rgreatest hB3 hI).mono ?_
          rintro e w4 ⟨rfl, rfl⟩
          go_wp2
          go_roundw
          case rel => exact ⟨k + 1, g, x, L, by omega, by go_num, hB3, hI, by omega⟩
          case measure => simp [intOf]; omega
        | false =>
          obtain ⟨g1, x1, e1, e2, hI1⟩ := round_false hI hr
          have HE := Lib.hid (And.intro e1 e2)
          have HR := Lib.hid hr
          clear e1 e2 hr
          go_wp2_with fail
          refine (both_rsee hB z (by omega) HZ.out _ _ HR.out HE.out.1).mono ?_
          rintro e w2 ⟨rfl, hB2⟩
          go_wp2_with fail
          refine (both_see hB2 _ rfl z g1 x1 1 (hI.ok 0) HZ.out HE.out.2).mono ?_
          rintro e w3 ⟨rfl, hB3⟩
          go_wp2_with fail
          refine (both_greatest hB3).mono ?_
          rintro e w4 ⟨rfl, rfl⟩
          go_wp2_with fail
          refine (both_rgreatest hB3 hI1).mono ?_
          rintro e w4 ⟨rfl, rfl⟩
          go_wp2
          go_roundw
          case rel => exact ⟨k + 1, g1, x1, L ++ [z], by omega, by go_num, hB3, hI1, by simp; omega⟩
          case measure => simp [intOf]; omega
      · have hke : k = na := by omega
        subst hke
        clear hlt hk hbo
        go_wp2
        go_loopw [13, 53] (fun n i wr => ∃ k : Nat, k ≤ nb ∧ i = .int .i64 k ∧ Both w1 wr w1.heap.size g x L) (fun _ i _ => nb - (intOf i).toNat)
        case atStart => exact ⟨0, by omega, rfl, hB⟩
        case round =>
          obtain ⟨j, hj, rfl, hC⟩ := hrel
          by_cases hlt : j < nb
          · have hr := hb1_.out.below hC.low
            obtain ⟨ab, ao, hA, hc⟩ := hr.2.2 (by omega)
            have hjl : j < lb.length := by have := hr.len; simp at this; omega
            subst hA
            obtain ⟨z, hz⟩ : ∃ z : Int, Hid (z = lb[j]) := ⟨_, Lib.hid rfl⟩
            have hcell := hc j hlt
            rw [List.getElem?_map, List.getElem?_eq_getElem hjl, ← hz.out] at hcell
            simp only [Option.map_some] at hcell
            have hzb := RB.out z (by rw [hz.out]; exact List.getElem_mem _)
            have HZ := Lib.hid hzb
            clear hc hr hzb
            obtain ⟨r, hr⟩ : ∃ r, Hid (refB L z = r) := ⟨_, Lib.hid rfl⟩
            go_wp2_with fail
            refine (both_seen hC hI z r hr.out HZ.out).mono ?_
            rintro e w2 ⟨rfl, hC2⟩
            go_wp2_with fail
            refine (both_rseen hC2 z r hr.out HZ.out).mono ?_
            rintro e w3 ⟨rfl, rfl⟩
            go_wp2
            go_roundw
            case rel => exact ⟨j + 1, by omega, by go_num, hC2⟩
            case measure => simp [intOf]; omega
          · clear hj
            go_wp2
            go_ret
            exact ⟨rfl, below2 hb1 hC.low⟩
end Go.Proofs.Ytljdiaokjocfpaa.Win

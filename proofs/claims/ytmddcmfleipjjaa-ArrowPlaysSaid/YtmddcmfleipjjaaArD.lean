/- arrow: a table of arrows; leads; the law ArrowLeads. -/
import Derived.Test.YtmddcmfleipjjaaArC
import Derived.Test.YtmddcmfleipjjaaE
namespace Go.Proofs.Ytmddcmfleipjjaa.Ar
open Go.RowKit Go.Proofs.Ytmddcmfleipjjaa.L Go.Proofs.Ytmddcmfleipjjaa.A Go.Proofs.Ytmddcmfleipjjaa.R Go.Proofs.Ytmddcmfleipjjaa.T Go.Proofs.Ytmddcmfleipjjaa.F Go.Proofs.Ytmddcmfleipjjaa.S Go.Proofs.Ytmddcmfleipjjaa.Sp Go.Proofs.Ytmddcmfleipjjaa.G Go.Proofs.Ytmddcmfleipjjaa.O Go.Proofs.Ytmddcmfleipjjaa.E
set_option linter.unusedVariables false
set_option linter.unusedSimpArgs false

def rowL (N : Nat) (to : Nat → Nat) : List A3 := (0, 0, 0) :: (List.range N).map fun m : Nat => ((m : Int) + 1, (N : Int), (to (m + 1) : Int))
theorem rowL_len (N : Nat) (to : Nat → Nat) : (rowL N to).length = N + 1 := by simp [rowL]
theorem row_at {N m : Nat} (to : Nat → Nat) (hm : In N m) : (rowL N to)[m]? = some ((m : Int), (N : Int), (to m : Int)) := by
  obtain ⟨j, rfl⟩ : ∃ j, m = j + 1 := ⟨m - 1, by have := hm.1; omega⟩
  have : j < N := by have := hm.2; omega
  simp [rowL, this]
theorem row_set {N m : Nat} (to : Nat → Nat) (y : Nat) (hm : In N m) : (rowL N to).set m ((m : Int), (N : Int), (y : Int)) = rowL N (upd to m y) := by
  apply List.ext_getElem?
  intro i
  rw [List.getElem?_set]
  by_cases e : m = i
  · subst e
    rw [if_pos rfl, if_pos (by rw [rowL_len]; have := hm.2; omega), row_at _ hm, upd_same]
  · rw [if_neg e]
    cases i with
    | zero => rfl
    | succ j =>
      have : upd to m y (j + 1) = to (j + 1) := upd_other (fun h => e h.symm)
      by_cases hj : j < N
      · simp [rowL, hj, this]
      · simp [rowL, hj]
theorem flat_set : ∀ (xs : List A3) (i : Nat) (h : i < xs.length) (y : Int), (xs.flatMap encA).set (i * 3 + 2) (.int .i64 y) = (xs.set i (xs[i].1, xs[i].2.1, y)).flatMap encA
  | x :: xs, 0, h, y => by simp [encA]
  | x :: xs, i + 1, h, y => by
    have ih := flat_set xs i (by simpa using h) y
    simp only [List.flatMap_cons, List.set_cons_succ, List.getElem_cons_succ]
    rw [← ih, show (i + 1) * 3 + 2 = (i * 3 + 2) + 1 + 1 + 1 by omega]
    simp [encA]
/-- the arrows of nodes 1 .. N lie in block g. -/
structure Tb (w0 W : World) (g c N : Nat) (to : Nat → Nat) : Prop where
  own : W.ownsRow w0.heap.size AR 3 (.slice (some ⟨g, 0, none⟩) (N + 1) c) (N + 1) ((rowL N to).flatMap encA)
  bel : Below w0.heap.size w0 W
section
variable {w0 W W' : World} {g c N m : Nat} {to : Nat → Nat}
theorem Tb.below (h : Tb w0 W g c N to) (hb : Below W.heap.size W W') : Tb w0 W' g c N to := ⟨own_kept h.own hb, h.bel.trans (hb.mono h.bel.size)⟩
theorem Tb.rr (h : Tb w0 W g c N to) (hm : In N m) : Rr W g (m * 3) m N (to m) := by
  have hr := row_at to hm
  have f := fun j hj => flat_at encA_len (j := j) hj (rowL N to) m
  simp only [hr, Option.bind_some] at f
  exact rr_own h.own (f 0 (by decide)) (f 1 (by decide)) (f 2 (by decide))
theorem Tb.turn (h : Tb w0 W g c N to) (hm : In N m) {y : Nat} (ht : Turned g (m * 3) y W W') : Tb w0 W' g c N (upd to m y) := by
  have hl : m < (rowL N to).length := by rw [rowL_len]; have := hm.2; omega
  obtain ⟨h1, h2⟩ := turned_own h.own (by have := hm.2; omega) h.bel.size ht
  have he : (rowL N to)[m] = ((m : Int), (N : Int), (to m : Int)) := by
    have := row_at to hm
    rw [List.getElem?_eq_getElem hl] at this
    exact Option.some.inj this
  rw [flat_set _ m hl, he, row_set to y hm] at h1
  exact ⟨h1, h.bel.trans h2⟩
theorem Tb.home (h : Tb w0 W g c N to) (hm : In N m) : Calls Try.prog 20 #[.pointer (some ⟨g, m * 3, none⟩)] W fun e w' => e = .returned (.bool (to m == m)) ∧ Tb w0 w' g c N to := by
  refine (home_any g (m * 3) m N (to m) W (h.rr hm)).mono ?_
  rintro e w' ⟨rfl, hb⟩
  refine ⟨?_, h.below hb⟩
  rw [show ((to m : Int) == (m : Int)) = (to m == m) by rw [Bool.eq_iff_iff]; simp; omega]
theorem Tb.want (h : Tb w0 W g c N to) (hm : In N m) : Calls Try.prog 9 #[.pointer (some ⟨g, m * 3, none⟩)] W fun e w' => e = .returned (.tuple #[.int .i64 ((if to m = m then 0 else to m : Nat) : Int), .bool (!(to m == m))]) ∧ Tb w0 w' g c N (upd to m m) := by
  refine (want_any g (m * 3) m N (to m) W (h.rr hm)).mono ?_
  rintro e w' ⟨rfl, ht⟩
  refine ⟨?_, h.turn hm ht⟩
  rw [show ((to m : Int) == (m : Int)) = (to m == m) by rw [Bool.eq_iff_iff]; simp; omega]
  unfold was
  by_cases e : to m = m
  · rw [if_pos e, if_pos (by omega)]; rfl
  · rw [if_neg e, if_neg (by omega)]
end
def chkN : Bool := all1 fun N => all1 fun a => all1 fun b => !(Nat.ble a N && Nat.ble b N && (T a b == b) && !(a == b)) || (neighL (a : Int) (N : Int)).contains (b : Int)
theorem chkN_ok : chkN = true := by kernel_rfl
theorem near_in {N a b : Nat} (hN : N ≤ 16) (ha : In N a) (hb : In N b) (h : T a b = b) (hne : a ≠ b) : (neighL (a : Int) (N : Int)).contains (b : Int) = true := by
  have hN1 : In 16 N := ⟨by have := ha.1; have := ha.2; omega, hN⟩
  have h0 := all1_at (all1_at (all1_at chkN_ok hN1.1 hN1.2) (ha.up hN).1 (ha.up hN).2) (hb.up hN).1 (hb.up hN).2
  have e1 : Nat.ble a N = true := Nat.ble_eq_true_of_le ha.2
  have e2 : Nat.ble b N = true := Nat.ble_eq_true_of_le hb.2
  have e3 : (T a b == b) = true := by simpa using h
  have e4 : (a == b) = false := by simpa using hne
  rw [e1, e2, e3, e4] at h0
  simpa using h0
theorem Tb.find {w0 W : World} {g c N m y : Nat} {to : Nat → Nat} (hN : N ≤ 16) (h : Tb w0 W g c N to) (hm : In N m) (hy : In N y) (hn : T m y = y) (hne : m ≠ y) : Calls Try.prog 10 #[.pointer (some ⟨g, m * 3, none⟩), .int .i64 y] W fun e w' => e = .returned (.tuple #[.int .i64 ((if to m = m then 0 else to m : Nat) : Int), .bool (to m == m), .int .i64 0]) ∧ Tb w0 w' g c N (upd to m y) := by
  have hf := find_any g (m * 3) m N (to m) y W (h.rr hm) (by have := (hm.up hN).2; omega)
  have hc := near_in hN hm hy hn hne
  simp only [hc, if_true] at hf
  refine hf.mono ?_
  rintro e w' ⟨rfl, ht⟩
  refine ⟨?_, h.turn hm ht⟩
  rw [show ((to m : Int) == (m : Int)) = (to m == m) by rw [Bool.eq_iff_iff]; simp; omega]
  unfold was
  by_cases e : to m = m
  · rw [if_pos e, if_pos (by omega)]; rfl
  · rw [if_neg e, if_neg (by omega)]
set_option maxHeartbeats 4000000 in
set_option maxRecDepth 100000 in
theorem leads_any {w0 : World} {g c N : Nat} {to : Nat → Nat} {l : Nat} (hN : N ≤ 16) (hl : In N l) (ha : All N l to) (m : Nat) (hm : In N m) (w : World) (h : Tb w0 w g c N to) :
    Calls Try.prog 11 #[.slice (some ⟨g, 0, none⟩) (N + 1) c, .int .i64 m, .int .i64 l] w fun e w' => e = .returned (.bool true) ∧ Tb w0 w' g c N to := by
  have H := Lib.hid h
  have hd0 := d_le (hm.up hN) (hl.up hN)
  clear h
  go_enter Try.func11, Try.ntmps11
  go_wp2
  go_loopw [7, 8] (fun a i wr => ∃ p s : Nat, In N p ∧ a = .int .i64 p ∧ i = .int .i64 s ∧ s + D p l ≤ 7 ∧ Tb w0 wr g c N to) (fun _ i _ => 40 - (intOf i).toNat)
  case atStart => exact ⟨m, 0, hm, rfl, rfl, by omega, H.out⟩
  case round =>
    obtain ⟨p, s, hp, rfl, rfl, hs, ht⟩ := hrel
    have HH := ht.home hp
    rw [ha p hp] at HH
    have HH := Lib.hid HH
    have hpN : p < N + 1 := by have := hp.2; omega
    have hrr := (ht.rr hp).c2
    rw [ha p hp] at hrr
    clear ht
    have hd1 : decide ((s : Int) < 40) = true := by simp; omega
    by_cases hpl : p = l
    · subst hpl
      have e1 : (T p p == p) = true := by simpa using (t_self_iff (hp.up hN) (hp.up hN)).2 rfl
      rw [e1] at HH
      go_wp2_with fail
      refine HH.out.mono ?_
      rintro e w1 ⟨rfl, ht1⟩
      have HT1 := Lib.hid ht1
      clear ht1
      go_wp2
      go_ret
      exact ⟨rfl, HT1.out⟩
    · have hq := t_in hN hp hl
      have hds := d_step (hp.up hN) (hl.up hN) hpl
      have e1 : (T p l == p) = false := by simpa using fun e => hpl ((t_self_iff (hp.up hN) (hl.up hN)).1 e)
      rw [e1] at HH
      obtain ⟨q, hqe⟩ : ∃ q, T p l = q := ⟨_, rfl⟩
      rw [hqe] at hq hds
      have HQ := Lib.hid hqe
      clear e1 hqe hrr
      go_wp2_with fail
      refine HH.out.mono ?_
      rintro e w1 ⟨rfl, ht1⟩
      have hrr := (ht1.rr hp).c2
      rw [ha p hp, HQ.out] at hrr
      have HT1 := Lib.hid ht1
      have hq1 := hq.1
      have hq2 := hq.2
      have hd2 : decide ((q : Int) < 1) = false := by simp; omega
      have hd3 : decide ((N : Int) + 1 ≤ (q : Int)) = false := by simp; omega
      have hd4 : decide (N + 1 ≤ q) = false := by simp; omega
      clear ht1
      go_wp2_with fail
      go_roundw
      case rel => exact ⟨q, s + 1, hq, rfl, by go_num, by omega, HT1.out⟩
      case measure => simp [intOf]; omega
end Go.Proofs.Ytmddcmfleipjjaa.Ar

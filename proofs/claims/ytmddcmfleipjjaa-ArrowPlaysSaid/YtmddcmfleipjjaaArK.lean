/- arrow: a book: Want, Find, Point. -/
import Derived.Test.YtmddcmfleipjjaaArH
import Derived.Deep.RegionWith
import Derived.Deep.LoopGhost
import Derived.Deep.DeepCutAuto
import Derived.Deep.CutRange
namespace Go.Proofs.Ytmddcmfleipjjaa.Ar
open Go.RowKit Go.Proofs.Ytmddcmfleipjjaa.L Go.Proofs.Ytmddcmfleipjjaa.A Go.Proofs.Ytmddcmfleipjjaa.R Go.Proofs.Ytmddcmfleipjjaa.T Go.Proofs.Ytmddcmfleipjjaa.F Go.Proofs.Ytmddcmfleipjjaa.S Go.Proofs.Ytmddcmfleipjjaa.Sp Go.Proofs.Ytmddcmfleipjjaa.G Go.Proofs.Ytmddcmfleipjjaa.O Go.Proofs.Ytmddcmfleipjjaa.E
set_option linter.unusedVariables false
set_option linter.unusedSimpArgs false

theorem bwant_ok (b g c i : Nat) (L : List A3) (x : A3) (w : World) (h : Bk w b g c L) (hx : L[i]? = some x) :
    Calls Try.prog 12 #[.pointer (some ⟨b, 0, none⟩), .int .i64 i] w fun e w' => e = .returned (.tuple #[.int .i64 (was x.1 x.2.2), .bool (!(x.2.2 == x.1)), .int .i64 0]) ∧ Turned g (i * 3) x.1 w w' := by
  have HAT := Lib.hid (at_ok b g c i L w h (List.getElem?_eq_some_iff.1 hx).1)
  have HW := want_any g (i * 3) x.1 x.2.1 x.2.2 w (h.rr hx)
  obtain ⟨p, hp⟩ : ∃ p, was x.1 x.2.2 = p := ⟨_, rfl⟩
  obtain ⟨q, hq⟩ : ∃ q, (!(x.2.2 == x.1)) = q := ⟨_, rfl⟩
  rw [hp, hq] at HW
  rw [hp, hq]
  have HW := Lib.hid HW
  obtain ⟨x1, hx1⟩ : ∃ x1, x.1 = x1 := ⟨_, rfl⟩
  rw [hx1] at HW ⊢
  clear h hx hp hq hx1
  go_enter Try.func12, Try.ntmps12
  go_wp2_with fail
  refine HAT.out.mono ?_
  rintro e w1 ⟨rfl, rfl⟩
  go_wp2_with fail
  refine HW.out.mono ?_
  rintro e w1 ⟨rfl, ht⟩
  have HT := Lib.hid ht
  clear ht
  go_wp2
  refine bodyPost_ret (v := .tuple #[.int .i64 p, .bool q, .int .i64 0]) (by simp [results, Try.results12, go_sem]) rfl ?_
  exact ⟨rfl, HT.out⟩
theorem bwant_no (b g c : Nat) (i : Int) (L : List A3) (w : World) (h : Bk w b g c L) (hi : ¬ (0 ≤ i ∧ i < L.length)) :
    Calls Try.prog 12 #[.pointer (some ⟨b, 0, none⟩), .int .i64 i] w fun e w' => e = .returned (.tuple #[.int .i64 0, .bool false, .int .i64 1]) ∧ w = w' := by
  have HAT := Lib.hid (at_no b g c i L w h hi)
  clear h hi
  go_enter Try.func12, Try.ntmps12
  go_wp2_with fail
  refine HAT.out.mono ?_
  rintro e w1 ⟨rfl, rfl⟩
  go_wp2
  refine bodyPost_ret (v := .tuple #[.int .i64 0, .bool false, .int .i64 1]) (by simp [results, Try.results12, go_sem]) rfl ?_
  exact ⟨rfl, rfl⟩
theorem bfind_ok (b g c i : Nat) (L : List A3) (x : A3) (y : Int) (w : World) (h : Bk w b g c L) (hx : L[i]? = some x) (hn : -9223372036854775808 ≤ x.1 ∧ x.1 ≤ 9223372036854775807) :
    Calls Try.prog 13 #[.pointer (some ⟨b, 0, none⟩), .int .i64 i, .int .i64 y] w fun e w' => if (neighL x.1 x.2.1).contains y then e = .returned (.tuple #[.int .i64 (was x.1 x.2.2), .bool (x.2.2 == x.1), .int .i64 0]) ∧ Turned g (i * 3) y w w' else e = .returned (.tuple #[.int .i64 0, .bool false, .int .i64 1]) ∧ Below w.heap.size w w' := by
  have HAT := Lib.hid (at_ok b g c i L w h (List.getElem?_eq_some_iff.1 hx).1)
  have HW := find_any g (i * 3) x.1 x.2.1 x.2.2 y w (h.rr hx) hn
  obtain ⟨p, hp⟩ : ∃ p, was x.1 x.2.2 = p := ⟨_, rfl⟩
  obtain ⟨q, hq⟩ : ∃ q, (x.2.2 == x.1) = q := ⟨_, rfl⟩
  obtain ⟨r, hr⟩ : ∃ r, (neighL x.1 x.2.1).contains y = r := ⟨_, rfl⟩
  rw [hp, hq, hr] at HW
  rw [hp, hq, hr]
  obtain ⟨x1, hx1⟩ : ∃ x1, x.1 = x1 := ⟨_, rfl⟩
  cases r with
  | true =>
    simp only [if_true] at HW ⊢
    have HW := Lib.hid HW
    clear h hx hp hq hx1 hr hn
    go_enter Try.func13, Try.ntmps13
    go_wp2_with fail
    refine HAT.out.mono ?_
    rintro e w1 ⟨rfl, rfl⟩
    go_wp2_with fail
    refine HW.out.mono ?_
    rintro e w1 ⟨rfl, ht⟩
    have HT := Lib.hid ht
    clear ht
    go_wp2
    refine bodyPost_ret (v := .tuple #[.int .i64 p, .bool q, .int .i64 0]) (by simp [results, Try.results13, go_sem]) rfl ?_
    exact ⟨rfl, HT.out⟩
  | false =>
    simp only [Bool.false_eq_true, if_false] at HW ⊢
    have HW := Lib.hid HW
    clear h hx hp hq hx1 hr hn
    go_enter Try.func13, Try.ntmps13
    go_wp2_with fail
    refine HAT.out.mono ?_
    rintro e w1 ⟨rfl, rfl⟩
    go_wp2_with fail
    refine HW.out.mono ?_
    rintro e w1 ⟨rfl, ht⟩
    have HT := Lib.hid ht
    clear ht
    go_wp2
    refine bodyPost_ret (v := .tuple #[.int .i64 0, .bool false, .int .i64 1]) (by simp [results, Try.results13, go_sem]) rfl ?_
    exact ⟨rfl, HT.out⟩
theorem bfind_no (b g c : Nat) (i y : Int) (L : List A3) (w : World) (h : Bk w b g c L) (hi : ¬ (0 ≤ i ∧ i < L.length)) :
    Calls Try.prog 13 #[.pointer (some ⟨b, 0, none⟩), .int .i64 i, .int .i64 y] w fun e w' => e = .returned (.tuple #[.int .i64 0, .bool false, .int .i64 1]) ∧ w = w' := by
  have HAT := Lib.hid (at_no b g c i L w h hi)
  clear h hi
  go_enter Try.func13, Try.ntmps13
  go_wp2_with fail
  refine HAT.out.mono ?_
  rintro e w1 ⟨rfl, rfl⟩
  go_wp2
  refine bodyPost_ret (v := .tuple #[.int .i64 0, .bool false, .int .i64 1]) (by simp [results, Try.results13, go_sem]) rfl ?_
  exact ⟨rfl, rfl⟩
theorem bpoint_no (b g c : Nat) (i y : Int) (L : List A3) (w : World) (h : Bk w b g c L) (hi : ¬ (0 ≤ i ∧ i < L.length)) :
    Calls Try.prog 14 #[.pointer (some ⟨b, 0, none⟩), .int .i64 i, .int .i64 y] w fun e w' => e = .returned (.int .i64 1) ∧ w = w' := by
  have HAT := Lib.hid (at_no b g c i L w h hi)
  clear h hi
  go_enter Try.func14, Try.ntmps14
  go_wp2_with fail
  refine HAT.out.mono ?_
  rintro e w1 ⟨rfl, rfl⟩
  go_wp2
  go_ret
  exact ⟨rfl, rfl⟩
/-- an arrow is stored as a whole. -/
def Laid (g o : Nat) (n t y : Int) (w w' : World) : Prop := ∃ W0, Below w.heap.size w W0 ∧ ((W0.setCell ⟨g, o, none⟩ (.int .i64 n)).setCell ⟨g, o + 1, none⟩ (.int .i64 t)).setCell ⟨g, o + 2, none⟩ (.int .i64 y) = w'
/-- a new block that holds an arrow. -/
def Fresh3 (w W : World) (j : Nat) (p1 p2 p3 : Int) : Prop := Below w.heap.size w W ∧ W.heap[j]? = some (.cells #[.int .i64 p1, .int .i64 p2, .int .i64 p3] AR (0, 0))
theorem fresh_a {w w2 : World} {p1 p2 p3 : Int} (hb : Below w.heap.size w w2) : Fresh3 w (w2.alloc (.cells #[.int .i64 p1, .int .i64 p2, .int .i64 p3] AR)) w2.heap.size p1 p2 p3 := ⟨below2 hb (below_alloc _ _), heap_alloc_new _ _⟩
theorem fresh_b {w w2 : World} {j : Nat} {p1 p2 p3 : Int} {cs : Array Value} (hj : w.heap.size ≤ j) (hs : cs.size = 3) (hb : Below w.heap.size w w2) (hz : w2.heap[j]? = some (.cells cs AR (0, 0))) : Fresh3 w (((w2.setCell ⟨j, 0, none⟩ (.int .i64 p1)).setCell ⟨j, 1, none⟩ (.int .i64 p2)).setCell ⟨j, 2, none⟩ (.int .i64 p3)) j p1 p2 p3 := by
  have k : Keep [j] w2 (((w2.setCell ⟨j, 0, none⟩ (.int .i64 p1)).setCell ⟨j, 1, none⟩ (.int .i64 p2)).setCell ⟨j, 2, none⟩ (.int .i64 p3)) := (((Keep.refl _ _).setCell (p := ⟨j, 0, none⟩) (.inl (by simp)) _).setCell (p := ⟨j, 1, none⟩) (.inl (by simp)) _).setCell (p := ⟨j, 2, none⟩) (.inl (by simp)) _
  refine ⟨hb.trans (k.below hb.size (by simpa using hj)), ?_⟩
  have h1 := Go.Proofs.Ytmddcmfleipjjaa.L.heap_setCell_at w2 j 0 cs AR _ (.int .i64 p1) hz
  have h2 := Go.Proofs.Ytmddcmfleipjjaa.L.heap_setCell_at _ j 1 _ AR _ (.int .i64 p2) h1
  have h3 := Go.Proofs.Ytmddcmfleipjjaa.L.heap_setCell_at _ j 2 _ AR _ (.int .i64 p3) h2
  rw [h3]
  congr 2
  match cs, hs with
  | ⟨[a, b, c]⟩, _ => rfl
set_option maxHeartbeats 4000000 in
theorem bpoint_ok (b g c i : Nat) (L : List A3) (x : A3) (y : Int) (w : World) (h : Bk w b g c L) (hx : L[i]? = some x) :
    Calls Try.prog 14 #[.pointer (some ⟨b, 0, none⟩), .int .i64 i, .int .i64 y] w fun e w' => if towI x.1 y x.2.1 = 0 then e = .returned (.int .i64 1) ∧ Below w.heap.size w w' else e = .returned (.int .i64 0) ∧ Laid g (i * 3) x.1 x.2.1 (towI x.1 y x.2.1) w w' := by
  have HAT := Lib.hid (at_ok b g c i L w h (List.getElem?_eq_some_iff.1 hx).1)
  have hrr := h.rr hx
  have HFZ : Hid (∀ W, Below w.heap.size w W → W.frozen? ⟨g, i * 3, none⟩ = false ∧ W.frozen? ⟨g, i * 3 + 1, none⟩ = false ∧ W.frozen? ⟨g, i * 3 + 2, none⟩ = false) := Lib.hid fun W hb => by
    have h1 := h.below hb
    obtain ⟨-, -, -, hle, -, hc, -⟩ := own_some h1.own
    have hl := (List.getElem?_eq_some_iff.1 hx).1
    have : (i + 1) * 3 ≤ c * 3 := Nat.mul_le_mul_right 3 (by omega)
    exact ⟨(hc _ (by omega)).2, (hc _ (by omega)).2, (hc _ (by omega)).2⟩
  obtain ⟨n, t, z⟩ := x
  dsimp only at hrr ⊢
  have HRR := Lib.hid hrr
  obtain ⟨r, hr⟩ : ∃ r, towI n y t = r := ⟨_, rfl⟩
  obtain ⟨p1, p2, p3, E, HNEW, HE⟩ : ∃ p1 p2 p3 E : Int, Hid (∀ W, Calls Try.prog 21 #[.int .i64 n, .int .i64 t, .int .i64 y] W fun e w' => e = .returned (.tuple #[.agg #[.int .i64 p1, .int .i64 p2, .int .i64 p3], .int .i64 E]) ∧ Below W.heap.size W w') ∧ Hid ((r = 0 ∧ E = 1) ∨ (r ≠ 0 ∧ E = 0 ∧ p1 = n ∧ p2 = t ∧ p3 = r)) := by
    have h1 := fun W => new_any n t y W
    rw [hr] at h1
    by_cases hz : r = 0
    · simp only [if_pos hz] at h1
      exact ⟨_, _, _, _, Lib.hid h1, Lib.hid (.inl ⟨hz, rfl⟩)⟩
    · simp only [if_neg hz] at h1
      exact ⟨_, _, _, _, Lib.hid h1, Lib.hid (.inr ⟨hz, rfl, rfl, rfl, rfl⟩)⟩
  rw [hr]
  obtain ⟨c0, c1, c2, f2⟩ := hrr
  clear h hx hr c2 f2
  go_enter Try.func14, Try.ntmps14
  go_wp2_with fail
  refine HAT.out.mono ?_
  rintro e w1 ⟨rfl, rfl⟩
  go_upto_region 4 with (fail)
  go_cut [8, 9] (fun s8 s9 wx => ∃ j, s8 = .pointer (some ⟨j, 0, none⟩) ∧ s9 = .int .i64 E ∧ Hid (Fresh3 w wx j p1 p2 p3))
  case first =>
    have v0 : ∀ o, (w.drew.alloc o).cell? ⟨g, i * 3, none⟩ = some (.int .i64 n) := fun o => cell_below (below_alloc w.drew o) (w := w.drew) c0
    have v1 : ∀ o, (w.drew.alloc o).cell? ⟨g, i * 3 + 1, none⟩ = some (.int .i64 t) := fun o => cell_below (below_alloc w.drew o) (w := w.drew) c1
    have u0 : ∀ o, (w.alloc o).cell? ⟨g, i * 3, none⟩ = some (.int .i64 n) := fun o => cell_below (below_alloc w o) c0
    have u1 : ∀ o, (w.alloc o).cell? ⟨g, i * 3 + 1, none⟩ = some (.int .i64 t) := fun o => cell_below (below_alloc w o) c1
    go_region_with (go_at_call 21; refine (HNEW.out _).mono ?_; rintro e w2 ⟨rfl, hb2⟩; have HB2 := Lib.hid hb2; try (have hz9 := keep_block (.of_below (S := []) hb2) (heap_alloc_new _ (.cells #[.int .i64 0, .int .i64 0, .int .i64 0] AR)) (by simp); have z0 := cell_of_row _ _ 0 _ _ _ hz9; have z1 := cell_of_row _ _ 1 _ _ _ hz9; have z2 := cell_of_row _ _ 2 _ _ _ hz9; have y0 := frozen_of_row _ _ 0 _ _ hz9; have y1 := frozen_of_row _ _ 1 _ _ hz9; have y2 := frozen_of_row _ _ 2 _ _ hz9; simp at z0 z1 z2; have HZ9 := Lib.hid hz9; clear hz9); clear hb2)
    all_goals (go_wp2_with fail; go_meet; first | exact ⟨_, rfl, rfl, Lib.hid (fresh_b (Nat.le_refl _) rfl (below2 ((Below.refl _ w).drew.alloc (Nat.le_refl _) _) HB2.out) HZ9.out)⟩ | exact ⟨_, rfl, rfl, Lib.hid (fresh_a (below2 (Below.refl _ w).drew HB2.out))⟩)
  case rest =>
    obtain ⟨j, rfl, rfl, HFR⟩ := hcut
    obtain ⟨d0, d1, d2, -⟩ := HRR.out.below HFR.out.1
    obtain ⟨f0, f1, f2⟩ := HFZ.out _ HFR.out.1
    have k0 : wc.cell? ⟨j, 0, none⟩ = some (.int .i64 p1) := by rw [cell_of_row _ _ 0 _ _ _ HFR.out.2]; rfl
    have k1 : wc.cell? ⟨j, 1, none⟩ = some (.int .i64 p2) := by rw [cell_of_row _ _ 1 _ _ _ HFR.out.2]; rfl
    have k2 : wc.cell? ⟨j, 2, none⟩ = some (.int .i64 p3) := by rw [cell_of_row _ _ 2 _ _ _ HFR.out.2]; rfl
    rcases HE.out with ⟨hr0, hE⟩ | ⟨hr0, hE, h1, h2, h3⟩
    · subst hE
      have HR0 := Lib.hid hr0
      clear hr0
      go_wp2_with fail
      go_ret
      exact ⟨rfl, HFR.out.1⟩
    · subst hE
      have HR0 := Lib.hid hr0
      obtain ⟨HQ⟩ : Nonempty (Hid (p1 = n ∧ p2 = t ∧ p3 = r)) := ⟨Lib.hid ⟨h1, h2, h3⟩⟩
      clear hr0 h1 h2 h3
      go_wp2_with fail
      go_ret
      refine ⟨rfl, wc, HFR.out.1, ?_⟩
      rw [HQ.out.1, HQ.out.2.1, HQ.out.2.2]
end Go.Proofs.Ytmddcmfleipjjaa.Ar

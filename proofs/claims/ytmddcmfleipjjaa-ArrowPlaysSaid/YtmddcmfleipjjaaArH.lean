/- arrow: a book: at, To. -/
import Derived.Test.YtmddcmfleipjjaaArG
namespace Go.Proofs.Ytmddcmfleipjjaa.Ar
open Go.RowKit Go.Proofs.Ytmddcmfleipjjaa.L Go.Proofs.Ytmddcmfleipjjaa.A Go.Proofs.Ytmddcmfleipjjaa.R Go.Proofs.Ytmddcmfleipjjaa.T Go.Proofs.Ytmddcmfleipjjaa.F Go.Proofs.Ytmddcmfleipjjaa.S Go.Proofs.Ytmddcmfleipjjaa.Sp Go.Proofs.Ytmddcmfleipjjaa.G Go.Proofs.Ytmddcmfleipjjaa.O Go.Proofs.Ytmddcmfleipjjaa.E
set_option linter.unusedVariables false
set_option linter.unusedSimpArgs false

abbrev BK : TypeId := 67
/-- a book at b, whose arrows lie in block g. -/
structure Bk (W : World) (b g c : Nat) (L : List A3) : Prop where
  blk : W.heap[b]? = some (.cells #[.slice (some ⟨g, 0, none⟩) L.length c] BK (0, 0))
  own : W.ownsRow (b + 1) AR 3 (.slice (some ⟨g, 0, none⟩) L.length c) L.length (L.flatMap encA)
theorem Bk.below {W W' : World} {b g c : Nat} {L : List A3} (h : Bk W b g c L) (hb : Below W.heap.size W W') : Bk W' b g c L := ⟨keep_block (.of_below (S := []) hb) h.blk (by simp), own_kept h.own hb⟩
theorem Bk.rr {W : World} {b g c i : Nat} {L : List A3} {x : A3} (h : Bk W b g c L) (hx : L[i]? = some x) : Rr W g (i * 3) x.1 x.2.1 x.2.2 := by
  have f := fun j hj => flat_at encA_len (j := j) hj L i
  simp only [hx, Option.bind_some] at f
  exact rr_own h.own (f 0 (by decide)) (f 1 (by decide)) (f 2 (by decide))
theorem at_ok (b g c i : Nat) (L : List A3) (w : World) (h : Bk w b g c L) (hi : i < L.length) :
    Calls Try.prog 25 #[.pointer (some ⟨b, 0, none⟩), .int .i64 i] w fun e w' => e = .returned (.pointer (some ⟨g, i * 3, none⟩)) ∧ w = w' := by
  have c0 : w.cell? ⟨b, 0, none⟩ = some (.slice (some ⟨g, 0, none⟩) L.length c) := by rw [cell_of_row w b 0 _ _ _ h.blk]; rfl
  obtain ⟨n, hn⟩ : ∃ n, L.length = n := ⟨_, rfl⟩
  rw [hn] at c0 hi
  have hd : decide ((n : Int) ≤ (i : Int)) = false := by simp; omega
  have hd2 : decide (n ≤ i) = false := by simp; omega
  clear h hn
  go_enter Try.func25, Try.ntmps25
  go_wp2
  go_ret
  exact ⟨rfl, rfl⟩
theorem at_no (b g c : Nat) (i : Int) (L : List A3) (w : World) (h : Bk w b g c L) (hi : ¬ (0 ≤ i ∧ i < L.length)) :
    Calls Try.prog 25 #[.pointer (some ⟨b, 0, none⟩), .int .i64 i] w fun e w' => e = .returned (.pointer none) ∧ w = w' := by
  have c0 : w.cell? ⟨b, 0, none⟩ = some (.slice (some ⟨g, 0, none⟩) L.length c) := by rw [cell_of_row w b 0 _ _ _ h.blk]; rfl
  obtain ⟨n, hn⟩ : ∃ n, L.length = n := ⟨_, rfl⟩
  rw [hn] at c0 hi
  clear h hn
  by_cases h0 : i < 0
  · have hd0 : decide (i < 0) = true := by simpa using h0
    go_enter Try.func25, Try.ntmps25
    go_wp2
    go_ret
    exact ⟨rfl, rfl⟩
  · have hd0 : decide (i < 0) = false := by simpa using h0
    have hd : decide ((n : Int) ≤ i) = true := by simp; omega
    go_enter Try.func25, Try.ntmps25
    go_wp2
    go_ret
    exact ⟨rfl, rfl⟩
theorem to_ok (b g c i : Nat) (L : List A3) (x : A3) (w : World) (h : Bk w b g c L) (hx : L[i]? = some x) :
    Calls Try.prog 15 #[.pointer (some ⟨b, 0, none⟩), .int .i64 i] w fun e w' => e = .returned (.int .i64 x.2.2) ∧ w = w' := by
  have HAT := Lib.hid (at_ok b g c i L w h (List.getElem?_eq_some_iff.1 hx).1)
  obtain ⟨c0, c1, c2, f2⟩ := h.rr hx
  obtain ⟨x1, x2, x3⟩ := x
  dsimp only at c0 c1 c2 ⊢
  clear h hx
  go_enter Try.func15, Try.ntmps15
  go_wp2_with fail
  refine HAT.out.mono ?_
  rintro e w1 ⟨rfl, rfl⟩
  go_wp2
  go_ret
  exact ⟨rfl, rfl⟩
theorem to_no (b g c : Nat) (i : Int) (L : List A3) (w : World) (h : Bk w b g c L) (hi : ¬ (0 ≤ i ∧ i < L.length)) :
    Calls Try.prog 15 #[.pointer (some ⟨b, 0, none⟩), .int .i64 i] w fun e w' => e = .returned (.int .i64 0) ∧ w = w' := by
  have HAT := Lib.hid (at_no b g c i L w h hi)
  clear h hi
  go_enter Try.func15, Try.ntmps15
  go_wp2_with fail
  refine HAT.out.mono ?_
  rintro e w1 ⟨rfl, rfl⟩
  go_wp2
  go_ret
  exact ⟨rfl, rfl⟩
end Go.Proofs.Ytmddcmfleipjjaa.Ar

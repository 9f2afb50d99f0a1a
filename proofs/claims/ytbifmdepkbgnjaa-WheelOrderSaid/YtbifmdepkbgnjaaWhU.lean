/- wheel: the sort's walk: rotate. -/
import Derived.Test.YtbifmdepkbgnjaaWhT
import Derived.Deep.LoopGhost
namespace Go.Proofs.Ytbifmdepkbgnjaa.Wh
open Go.RowKit Go.Proofs.Ytbifmdepkbgnjaa.L Go.Proofs.Ytbifmdepkbgnjaa.R Go.Proofs.Ytbifmdepkbgnjaa.A Go.Proofs.Ytbifmdepkbgnjaa.S Go.Proofs.Ytbifmdepkbgnjaa.T Go.Proofs.Ytbifmdepkbgnjaa.C Go.Proofs.Ytbifmdepkbgnjaa.G Go.Proofs.Ytbifmdepkbgnjaa.E Go.Proofs.Ytbifmdepkbgnjaa.F
set_option linter.unusedVariables false
set_option linter.unusedSimpArgs false

/-- the row of the sort. -/
def Srt (base g c n : Nat) (w W : World) (T : List Tm) : Prop := W.ownsRow base TM 7 (.slice (some ⟨g, 0, none⟩) n c) n (T.flatMap encT) ∧ Keep [g] w W
theorem Srt.len {base g c n : Nat} {w W : World} {T : List Tm} (h : Srt base g c n w W T) : T.length = n := by have := h.1.1; rw [flat_len encT_len] at this; omega
theorem swap_srt {base g c n a b m : Nat} {T : List Tm} {f : Value} {w W : World} (h : Srt base g c n w W T) (hn : n ≤ 1000000) (ha : a + m ≤ n) (hb : b + m ≤ n) :
    Calls Try.prog 41 #[.slice (some ⟨g, 0, none⟩) n c, .int .i64 a, .int .i64 b, .int .i64 m, f] W fun e w' => e = .returned (.tuple #[]) ∧ Srt base g c n w w' (swapR T a b m) :=
  (swapRange_any base g c n a b m T f W h.1 h.len hn ha hb).mono fun e w' ⟨h1, h2, h3⟩ => ⟨h1, h2, h.2.trans h3⟩
set_option maxHeartbeats 8000000 in
set_option maxRecDepth 100000 in
theorem rotate_any (base g c n a m b : Nat) (T : List Tm) (f : Value) (w W : World) (h : Srt base g c n w W T) (hn : n ≤ 1000000) (ha : a < m) (hm : m < b) (hb : b ≤ n) :
    Calls Try.prog 40 #[.slice (some ⟨g, 0, none⟩) n c, .int .i64 a, .int .i64 m, .int .i64 b, f] W fun e w' => e = .returned (.tuple #[]) ∧ Srt base g c n w w' (rot T a m b) := by
  obtain ⟨i0, hi0⟩ : ∃ i0, m - a = i0 := ⟨_, rfl⟩
  obtain ⟨j0, hj0⟩ : ∃ j0, b - m = j0 := ⟨_, rfl⟩
  have HH := Lib.hid h
  have HR : Hid (rot T a m b = rotG m (i0 + j0) T i0 j0) := Lib.hid (by unfold rot; rw [hi0, hj0]; congr 1; omega)
  have e1 : (m : Int) - (a : Int) = (i0 : Int) := by omega
  have e2 : (b : Int) - (m : Int) = (j0 : Int) := by omega
  have HB : Hid (1 ≤ i0 ∧ 1 ≤ j0 ∧ i0 ≤ m ∧ m + j0 ≤ n ∧ m ≤ n) := Lib.hid (by omega)
  obtain ⟨R, hR⟩ : ∃ R, rot T a m b = R := ⟨_, rfl⟩
  rw [hR] at HR ⊢
  have hm9 : m ≤ 1000000 := by omega
  have hb9 : b ≤ 1000000 := by omega
  clear h hi0 hj0 hR ha hm
  go_enter Try.func40, Try.ntmps40
  go_wp2_with fail
  try rw [e1]
  try rw [e2]
  clear e1 e2
  go_loopg [10, 11] (i0 + j0) (fun gk iv jv wr => ∃ (i j : Nat) (T' : List Tm), gk = i + j ∧ iv = .int .i64 i ∧ jv = .int .i64 j ∧ 1 ≤ i ∧ 1 ≤ j ∧ i ≤ m ∧ m + j ≤ n ∧ Hid (Srt base g c n w wr T' ∧ ∃ f, i + j ≤ f ∧ R = rotG m f T' i j))
  case atStart => exact ⟨i0, j0, T, rfl, rfl, rfl, HB.out.1, HB.out.2.1, HB.out.2.2.1, HB.out.2.2.2.1, Lib.hid ⟨HH.out, i0 + j0, Nat.le_refl _, HR.out⟩⟩
  case round =>
    obtain ⟨i, j, T', rfl, rfl, rfl, hi, hj, him, hjn, HI⟩ := hrel
    have hi9 : i ≤ 1000000 := by omega
    have hj9 : j ≤ 1000000 := by omega
    by_cases hij : i = j
    · subst hij
      have HF : Hid (R = swapR T' (m - i) m i) := Lib.hid (by
        obtain ⟨f, hf, hr⟩ := HI.out.2
        obtain ⟨f', rfl⟩ : ∃ f', f = f' + 1 := ⟨f - 1, by omega⟩
        rw [hr, rotG, if_pos rfl])
      obtain ⟨mi, hmi⟩ : ∃ mi, m - i = mi := ⟨_, rfl⟩
      have e3 : (m : Int) - (i : Int) = (mi : Int) := by omega
      have HS := Lib.hid (swap_srt (a := mi) (b := m) (m := i) (f := f) HI.out.1 hn (by omega) hjn)
      rw [hmi] at HF
      clear hmi
      go_wp2_with fail
      refine HS.out.mono ?_
      rintro e w1 ⟨rfl, hs⟩
      have HS1 := Lib.hid hs
      clear hs
      go_wp2_with fail
      go_end0
      exact ⟨rfl, by rw [HF.out]; exact HS1.out⟩
    · have d1 : ((i : Int) != (j : Int)) = true := by simp; omega
      have d1' : (i != j) = true := by simpa using hij
      by_cases hgt : j < i
      · have d2 : decide ((j : Int) < (i : Int)) = true := by simp; omega
        have d2n : decide (j < i) = true := by simpa using hgt
        have HF : Hid (∃ f, (i - j) + j ≤ f ∧ R = rotG m f (swapR T' (m - i) m j) (i - j) j) := Lib.hid (by
          obtain ⟨f, hf, hr⟩ := HI.out.2
          obtain ⟨f', rfl⟩ : ∃ f', f = f' + 1 := ⟨f - 1, by omega⟩
          refine ⟨f', by omega, ?_⟩
          rw [hr, rotG, if_neg hij, if_pos hgt])
        obtain ⟨mi, hmi⟩ : ∃ mi, m - i = mi := ⟨_, rfl⟩
        obtain ⟨i', hi'⟩ : ∃ i', i - j = i' := ⟨_, rfl⟩
        have e3 : (m : Int) - (i : Int) = (mi : Int) := by omega
        have e4 : (i : Int) - (j : Int) = (i' : Int) := by omega
        have HS := Lib.hid (swap_srt (a := mi) (b := m) (m := j) (f := f) HI.out.1 hn (by omega) hjn)
        rw [hmi, hi'] at HF
        have HBI : Hid (1 ≤ i' ∧ i' ≤ m ∧ i' + j < i + j) := Lib.hid (by omega)
        have HE4 := Lib.hid e4
        clear hmi hi' hij hgt
        go_wp2_with fail
        refine HS.out.mono ?_
        rintro e w1 ⟨rfl, hs⟩
        have HS1 := Lib.hid hs
        clear hs
        go_wp2_with fail
        go_roundg (i' + j)
        case measure => exact HBI.out.2.2
        case rel => exact ⟨i', j, _, rfl, rfl, rfl, HBI.out.1, hj, HBI.out.2.1, hjn, Lib.hid ⟨HS1.out, HF.out⟩⟩
      · have d2 : decide ((j : Int) < (i : Int)) = false := by simp; omega
        have d2n : decide (j < i) = false := by simpa using hgt
        have HF : Hid (∃ f, i + (j - i) ≤ f ∧ R = rotG m f (swapR T' (m - i) (m + j - i) i) i (j - i)) := Lib.hid (by
          obtain ⟨f, hf, hr⟩ := HI.out.2
          obtain ⟨f', rfl⟩ : ∃ f', f = f' + 1 := ⟨f - 1, by omega⟩
          refine ⟨f', by omega, ?_⟩
          rw [hr, rotG, if_neg hij, if_neg hgt])
        obtain ⟨mi, hmi⟩ : ∃ mi, m - i = mi := ⟨_, rfl⟩
        obtain ⟨mj, hmj⟩ : ∃ mj, m + j - i = mj := ⟨_, rfl⟩
        obtain ⟨j', hj'⟩ : ∃ j', j - i = j' := ⟨_, rfl⟩
        have e3 : (m : Int) - (i : Int) = (mi : Int) := by omega
        have e4 : (j : Int) - (i : Int) = (j' : Int) := by omega
        have e5 : (m : Int) + (j : Int) - (i : Int) = (mj : Int) := by omega
        have HS := Lib.hid (swap_srt (a := mi) (b := mj) (m := i) (f := f) HI.out.1 hn (by omega) (by omega))
        rw [hmi, hmj, hj'] at HF
        have HBI : Hid (1 ≤ j' ∧ m + j' ≤ n ∧ i + j' < i + j) := Lib.hid (by omega)
        have HE4 := Lib.hid e4
        have HE5 := Lib.hid e5
        clear hmi hmj hj' hij hgt e5
        go_wp2_with (rw [HE5.out])
        refine HS.out.mono ?_
        rintro e w1 ⟨rfl, hs⟩
        have HS1 := Lib.hid hs
        clear hs
        go_wp2_with fail
        go_roundg (i + j')
        case measure => exact HBI.out.2.2
        case rel => exact ⟨i, j', _, rfl, rfl, rfl, hi, HBI.out.1, him, HBI.out.2.1, Lib.hid ⟨HS1.out, HF.out⟩⟩
end Go.Proofs.Ytbifmdepkbgnjaa.Wh

/- The laws' walks. -/
import Derived.Test.YtljdiaokjocfpaaCrcC
import Derived.Test.YtljdiaokjocfpaaO
namespace Go.Proofs.Ytljdiaokjocfpaa.Crc
open Go.RowKit Go.Proofs.Ytljdiaokjocfpaa.L Go.Proofs.Ytljdiaokjocfpaa.O
set_option linter.unusedVariables false
set_option linter.unusedSimpArgs false

/-- texts that came in. -/
def strE : ByteArray → List Value := fun s => [.string s]
def strG : ByteArray → Prop := fun s => s.size ≤ 140737488351232
theorem opens_strs (W : World) : Opens Try.prog W 22 (fun s : Sl ByteArray => [.slice s.A s.n s.c]) (SlOk W 1 16 strE strG) :=
  opens_slice (e := 9) (by kernel_rfl) (by kernel_rfl) (by decide) (by kernel_rfl) (opens_string (by kernel_rfl))
theorem rd_strs {w : World} {s : Sl ByteArray} (h : SlOk w 1 16 strE strG s) : Rd w s.A s.n (s.xs.map Value.string) ∧ (∀ x ∈ s.xs, x.size ≤ 140737488351232) := by
  obtain ⟨h1, h2, h3, h4, h5, h6, h7⟩ := h
  refine ⟨⟨by simp [h1], by omega, fun h0 => ?_⟩, fun x hx => (h6 x hx).1⟩
  obtain ⟨b, o, e, hc⟩ := h7 h0
  refine ⟨b, o, e, fun j hj => ?_⟩
  have := hc j hj 0 (by omega)
  rw [Nat.mul_one, Nat.add_zero] at this
  rw [this, List.getElem?_map]
  cases hx : s.xs[j]? <;> simp [strE]

theorem u32_range {n : Int} (h : (Lit.int .u32 n).wf = true) : 0 ≤ n ∧ n < 4294967296 := by
  simp [Lit.wf, IntKind.min, IntKind.max, IntKind.signed, IntKind.bits] at h
  omega
theorem longB_total {ss : List ByteArray} (h : longB ss = false) : ss.length ≤ 60 ∧ total ss ≤ 3000 := by
  simp [longB] at h
  omega
theorem sums_walk (w : World) (s : Sl ByteArray) (hg : SlOk w 1 16 strE strG s) :
    Calls Try.prog 3 #[.slice s.A s.n s.c] w fun e w' => e = .returned (.bool true) ∧ Below w.heap.size w w' := by
  obtain ⟨A, n, c, ss⟩ := s
  obtain ⟨hr, hss⟩ := rd_strs hg
  simp only at hr hss ⊢
  clear hg
  have Hs := Lib.hid hss
  clear hss
  cases hl : longB ss with
  | true =>
    have HL := Lib.hid hl
    clear hl
    go_enter Try.func3, Try.ntmps3
    go_wp2_with fail
    refine (awake_any _).mono ?_
    rintro e w1 ⟨rfl, hb1⟩
    go_wp2_with fail
    refine (long_any _ _ _ ss _ (hr.below hb1) Hs.out).mono ?_
    rintro e w2 ⟨rfl, rfl⟩
    rw [HL.out]
    go_wp2_with fail
    go_ret
    exact ⟨rfl, hb1⟩
  | false =>
    have HL := Lib.hid hl
    have hT := longB_total hl
    clear hl
    go_enter Try.func3, Try.ntmps3
    go_wp2_with fail
    refine (awake_any _).mono ?_
    rintro e w1 ⟨rfl, hb1⟩
    go_wp2_with fail
    refine (long_any _ _ _ ss _ (hr.below hb1) Hs.out).mono ?_
    rintro e w2 ⟨rfl, rfl⟩
    rw [HL.out]
    go_wp2_with fail
    refine (sum_any _ _ _ ss _ (hr.below hb1) Hs.out).mono ?_
    rintro e w3 ⟨rfl, hb2⟩
    go_wp2_with fail
    refine (joined_any _ _ _ ss _ (hr.below (below2 hb1 hb2)) (by omega)).mono ?_
    rintro e w4 ⟨rfl, rfl⟩
    go_wp2_with fail
    refine (ref_any 0 (cat ss) _ (by decide) (by rw [cat_size]; omega)).mono ?_
    rintro e w5 ⟨rfl, rfl⟩
    rw [sb_cat]
    go_wp2_with fail
    go_ret
    exact ⟨rfl, below2 hb1 hb2⟩
theorem goes_walk (w : World) (sum : Int) (s : Sl ByteArray) (hw : (Lit.int .u32 sum).wf = true) (hg : SlOk w 1 16 strE strG s) :
    Calls Try.prog 4 #[.int .u32 sum, .slice s.A s.n s.c] w fun e w' => e = .returned (.bool true) ∧ Below w.heap.size w w' := by
  obtain ⟨A, n, c, ss⟩ := s
  obtain ⟨hr, hss⟩ := rd_strs hg
  simp only at hr hss ⊢
  clear hg
  have Hs := Lib.hid hss
  clear hss
  have hb := u32_range hw
  obtain ⟨m, rfl⟩ := Int.eq_ofNat_of_zero_le hb.1
  have hm : m < 2 ^ 32 := by omega
  clear hw hb
  cases hl : longB ss with
  | true =>
    have HL := Lib.hid hl
    clear hl
    go_enter Try.func4, Try.ntmps4
    go_wp2_with fail
    refine (awake_any _).mono ?_
    rintro e w1 ⟨rfl, hb1⟩
    go_wp2_with fail
    refine (long_any _ _ _ ss _ (hr.below hb1) Hs.out).mono ?_
    rintro e w2 ⟨rfl, rfl⟩
    rw [HL.out]
    go_wp2_with fail
    go_ret
    exact ⟨rfl, hb1⟩
  | false =>
    have HL := Lib.hid hl
    have hT := longB_total hl
    clear hl
    go_enter Try.func4, Try.ntmps4
    go_wp2_with fail
    refine (awake_any _).mono ?_
    rintro e w1 ⟨rfl, hb1⟩
    go_wp2_with fail
    refine (long_any _ _ _ ss _ (hr.below hb1) Hs.out).mono ?_
    rintro e w2 ⟨rfl, rfl⟩
    rw [HL.out]
    go_wp2_with fail
    refine (more_any m _ _ _ ss _ hm (hr.below hb1) Hs.out).mono ?_
    rintro e w3 ⟨rfl, hb2⟩
    go_wp2_with fail
    refine (joined_any _ _ _ ss _ (hr.below (below2 hb1 hb2)) (by omega)).mono ?_
    rintro e w4 ⟨rfl, rfl⟩
    go_wp2_with fail
    refine (ref_any m (cat ss) _ hm (by rw [cat_size]; omega)).mono ?_
    rintro e w5 ⟨rfl, rfl⟩
    rw [sb_cat]
    go_wp2_with fail
    go_ret
    exact ⟨rfl, below2 hb1 hb2⟩
end Go.Proofs.Ytljdiaokjocfpaa.Crc

/- The walk of the law on joins, all ways. -/
import Derived.Test.YtljdiaokjocfpaaCrcF
namespace Go.Proofs.Ytljdiaokjocfpaa.Crc
open Go.RowKit Go.Proofs.Ytljdiaokjocfpaa.L Go.Proofs.Ytljdiaokjocfpaa.O Go.Proofs.Ytljdiaokjocfpaa.R Go.Proofs.Ytljdiaokjocfpaa.A
set_option linter.unusedVariables false
set_option linter.unusedSimpArgs false

set_option maxHeartbeats 1000000 in
theorem joins_walk (w : World) (s t : Sl ByteArray) (at_ : Int) (hs : SlOk w 1 16 strE strG s) (ht : SlOk w 1 16 strE strG t) (ha : (Lit.int .i64 at_).wf = true) :
    Calls Try.prog 6 #[.slice s.A s.n s.c, .slice t.A t.n t.c, .int .i64 at_] w fun e w' => e = .returned (.bool true) ∧ Below w.heap.size w w' := by
  obtain ⟨A, na, ca, sa⟩ := s
  obtain ⟨Ab, nb, cb, sb_⟩ := t
  obtain ⟨hra, hsa⟩ := rd_strs hs
  obtain ⟨hrb, hsb⟩ := rd_strs ht
  have hAn := hs.2.2.2.2.1
  have hBn := ht.2.2.2.2.1
  simp only at hra hsa hrb hsb hAn hBn ⊢
  clear hs ht ha
  cases hla : longB sa with
  | true =>
    have HLa := Lib.hid hla
    have Hsa := Lib.hid hsa
    clear hla hsa hsb hAn hBn
    go_enter Try.func6, Try.ntmps6
    go_wp2_with fail
    refine (awake_any _).mono ?_
    rintro e w1 ⟨rfl, hb1⟩
    go_wp2_with fail
    refine (long_any _ _ _ sa _ (hra.below hb1) Hsa.out).mono ?_
    rintro e w2 ⟨rfl, rfl⟩
    rw [HLa.out]
    go_wp2_with fail
    go_ret
    exact ⟨rfl, hb1⟩
  | false =>
    cases hlb : longB sb_ with
    | true =>
      have HLa := Lib.hid hla
      have HLb := Lib.hid hlb
      have Hsa := Lib.hid hsa
      have Hsb := Lib.hid hsb
      clear hla hlb hsa hsb hAn hBn
      go_enter Try.func6, Try.ntmps6
      go_wp2_with fail
      refine (awake_any _).mono ?_
      rintro e w1 ⟨rfl, hb1⟩
      go_wp2_with fail
      refine (long_any _ _ _ sa _ (hra.below hb1) Hsa.out).mono ?_
      rintro e w2 ⟨rfl, rfl⟩
      rw [HLa.out]
      go_wp2_with fail
      refine (long_any _ _ _ sb_ _ (hrb.below hb1) Hsb.out).mono ?_
      rintro e w2 ⟨rfl, rfl⟩
      rw [HLb.out]
      go_wp2_with fail
      go_ret
      exact ⟨rfl, hb1⟩
    | false =>
      by_cases hin : 0 ≤ at_ ∧ at_ ≤ total sb_
      · exact joins_go w A Ab na ca nb cb sa sb_ at_ hra hrb hsa hsb hla hlb hAn hBn at_.toNat (by omega) (.inl (by omega))
      · exact joins_go w A Ab na ca nb cb sa sb_ at_ hra hrb hsa hsb hla hlb hAn hBn 0 (by omega) (.inr ⟨rfl, by omega⟩)
end Go.Proofs.Ytljdiaokjocfpaa.Crc

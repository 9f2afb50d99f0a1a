/- WireJoins: the walk. -/
import Derived.Test.YtfpocddpnoighaaWrF
namespace Go.Proofs.Ytfpocddpnoighaa.Wr
open Go.RowKit Go.Proofs.Ytfpocddpnoighaa.L Go.Proofs.Ytfpocddpnoighaa.O Go.Proofs.Ytfpocddpnoighaa.A Go.Proofs.Ytfpocddpnoighaa.S Go.Proofs.Ytfpocddpnoighaa.T Go.Proofs.Ytfpocddpnoighaa.E
set_option linter.unusedVariables false
set_option linter.unusedSimpArgs false

theorem says_app (a b : List UInt8) : saysB (a ++ b) false = saysB a false ++ saysB b false := by
  unfold saysB
  simp
  apply ByteArray.ext
  simp
set_option maxHeartbeats 8000000 in
set_option maxRecDepth 100000 in
theorem joins_walk (w : World) (A B : Option Addr) (na ca nb cb : Nat) (a b : List Th) (ha : Things w A na a) (hb : Things w B nb b) :
    Calls Try.prog 3 #[.slice A na ca, .slice B nb cb] w fun e w' => e = .returned (.bool true) ∧ Below w.heap.size w w' := by
  have hna := ha.rd.2.1
  have hnb := hb.rd.2.1
  have HA := Lib.hid ha
  have HB := Lib.hid hb
  clear ha hb
  obtain ⟨ga, hga⟩ : ∃ g, Hid (longB a = g) := ⟨_, Lib.hid rfl⟩
  obtain ⟨gb, hgb⟩ : ∃ g, Hid (longB b = g) := ⟨_, Lib.hid rfl⟩
  cases ga
  case true =>
    go_enter Try.func3, Try.ntmps3
    go_wp2_with fail
    refine (awake_any w).mono ?_
    rintro e w1 ⟨rfl, hb1⟩
    go_wp2_with fail
    refine (long_any w1 A na ca a (HA.out.below hb1) true hga.out).mono ?_
    rintro e w2 ⟨rfl, hb2⟩
    go_wp2
    go_ret
    exact ⟨rfl, below2 hb1 hb2⟩
  cases gb
  case true =>
    go_enter Try.func3, Try.ntmps3
    go_wp2_with fail
    refine (awake_any w).mono ?_
    rintro e w1 ⟨rfl, hb1⟩
    go_wp2_with fail
    refine (long_any w1 A na ca a (HA.out.below hb1) false hga.out).mono ?_
    rintro e w2 ⟨rfl, hb2⟩
    have HB2 := HB.out.below (below2 hb1 hb2)
    go_wp2_with fail
    refine (long_any w2 B nb cb b HB2 true hgb.out).mono ?_
    rintro e w3 ⟨rfl, hb3⟩
    go_wp2
    go_ret
    exact ⟨rfl, below2 (below2 hb1 hb2) hb3⟩
  go_enter Try.func3, Try.ntmps3
  go_wp2_with fail
  refine (awake_any w).mono ?_
  rintro e w1 ⟨rfl, hb1⟩
  go_wp2_with fail
  refine (long_any w1 A na ca a (HA.out.below hb1) false hga.out).mono ?_
  rintro e w2 ⟨rfl, hb2⟩
  have HB2 := HB.out.below (below2 hb1 hb2)
  go_wp2_with fail
  refine (long_any w2 B nb cb b HB2 false hgb.out).mono ?_
  rintro e w3 ⟨rfl, hb3⟩
  have hb03 := Lib.hid (below2 (below2 hb1 hb2) hb3)
  have HA3 := Lib.hid (HA.out.below hb03.out)
  have HB3 := Lib.hid (HB.out.below hb03.out)
  have HT0 := Lib.hid (tri_new w3 30 (.inl rfl))
  clear hb1 hb2 hb3 HB2 HA HB
  obtain ⟨W0, hW0⟩ : ∃ W0, Hid ((((w3.alloc (.cells #[.pointer none, .slice none 0 0, .bool false] 30)).alloc (.cells #[.pointer none, .slice none 0 0, .bool false] 30)).alloc (.cells #[.pointer none, .slice none 0 0, .bool false] 30)) = W0) := ⟨_, Lib.hid rfl⟩
  obtain ⟨bv, hbv⟩ : ∃ bv, Hid (w3.heap.size = bv) := ⟨_, Lib.hid rfl⟩
  obtain ⟨bw, hbw⟩ : ∃ bw, Hid (w3.heap.size + 1 = bw) := ⟨_, Lib.hid rfl⟩
  obtain ⟨bx, hbx⟩ : ∃ bx, Hid (w3.heap.size + 1 + 1 = bx) := ⟨_, Lib.hid rfl⟩
  rw [hW0.out, hbx.out, hbw.out, hbv.out] at HT0
  have hlen := Lib.hid HA3.out.len
  have hlenb := Lib.hid HB3.out.len
  obtain ⟨hga1, hga2⟩ : Hid (a.length ≤ 100) ∧ Hid (tot a ≤ 200000) := by
    have := hga.out
    simp only [longB, Bool.or_eq_false_iff, decide_eq_false_iff_not] at this
    exact ⟨Lib.hid (by omega), Lib.hid (by omega)⟩
  obtain ⟨hgb1, hgb2⟩ : Hid (b.length ≤ 100) ∧ Hid (tot b ≤ 200000) := by
    have := hgb.out
    simp only [longB, Bool.or_eq_false_iff, decide_eq_false_iff_not] at this
    exact ⟨Lib.hid (by omega), Lib.hid (by omega)⟩
  go_wp2_with fail
  rw [hW0.out, hbx.out, hbw.out, hbv.out]
  go_loopw [22] (fun i wr => ∃ k : Nat, k ≤ na ∧ i = .int .i64 k ∧ Tri w3 wr [] bv bw bx (wireB (a.take k)) [] (wireB (a.take k)) (wireBad (a.take k)) false (wireBad (a.take k))) (fun i _ => na - (intOf i).toNat)
  case atStart => exact ⟨0, by omega, rfl, by simpa [wireB, wireBad] using HT0.out⟩
  case round =>
    obtain ⟨k, hk, rfl, hT⟩ := hrel
    by_cases hlt : k < na
    · obtain ⟨ab, ao, x, hAe, ⟨hkl, hx⟩, hg, c0, c1, c2⟩ := (HA3.out.below hT.low).at k hlt
      subst hAe
      have hl1 := Lib.hid (len_wire_take a k hkl hga1.out hga2.out)
      have hw1 := Lib.hid (wireB_take a k hkl)
      have hw2 := Lib.hid (wireBad_take a k hkl)
      rw [hx] at hl1 hw1 hw2
      obtain ⟨xk, xn, xs⟩ := x
      dsimp only at c0 c1 c2 hl1
      obtain ⟨gb, hgb⟩ : ∃ gb, Hid (wr.heap.size = gb) := ⟨_, Lib.hid rfl⟩
      obtain ⟨W1, hW1⟩ : ∃ W1, Hid (wr.alloc (.cells #[.int .i64 xk, .int .i64 xn, .string xs] 32) = W1) := ⟨_, Lib.hid rfl⟩
      have hT1 := hT.lay (.cells #[.int .i64 xk, .int .i64 xn, .string xs] 32)
      rw [hW1.out, hgb.out] at hT1
      have HC := Lib.hid (hT1.v (fun r h1 => put_any bv r _ _ ⟨xk, xn, xs⟩ W1 h1 (by have := hl1.out; dsimp only at this ⊢; omega)))
      clear hT hT1 hx
      go_wp2_with fail
      rw [hW1.out, hgb.out]
      refine HC.out.mono ?_
      rintro e W2 ⟨rfl, hT2⟩
      have hb2 := hT2.got
      have d0 : W2.cell? ⟨gb, 0, none⟩ = some (.int .i64 xk) := by rw [cell_of_row _ _ _ _ _ _ hb2]; rfl
      have d1 : W2.cell? ⟨gb, 1, none⟩ = some (.int .i64 xn) := by rw [cell_of_row _ _ _ _ _ _ hb2]; rfl
      have d2 : W2.cell? ⟨gb, 2, none⟩ = some (.string xs) := by rw [cell_of_row _ _ _ _ _ _ hb2]; rfl
      have HC2 := Lib.hid (hT2.x (fun r h1 => put_any bx r _ _ ⟨xk, xn, xs⟩ W2 h1 (by have := hl1.out; dsimp only at this ⊢; omega)))
      clear hT2 hb2 HC
      go_wp2_with fail
      refine HC2.out.mono ?_
      rintro e W3 ⟨rfl, hT3⟩
      have hres : Hid (Tri w3 W3 [] bv bw bx (wireB (a.take (k + 1))) [] (wireB (a.take (k + 1))) (wireBad (a.take (k + 1))) false (wireBad (a.take (k + 1)))) := Lib.hid (by
        rw [hw1.out, hw2.out]; exact hT3.drop)
      clear hT3 HC2
      go_wp2
      go_roundw
      case rel => exact ⟨k + 1, by omega, by go_num, hres.out⟩
      case measure => simp [intOf]; omega
    · have hres : Hid (Tri w3 wr [] bv bw bx (wireB a) [] (wireB a) (wireBad a) false (wireBad a)) := Lib.hid (by
        rw [List.take_of_length_le (by have := hlen.out; omega)] at hT; exact hT)
      clear hT
      go_wp2_with fail
      go_loopw [33] (fun i wr => ∃ k : Nat, k ≤ nb ∧ i = .int .i64 k ∧ Tri w3 wr [] bv bw bx (wireB a) (wireB (b.take k)) (wireB a ++ wireB (b.take k)) (wireBad a) (wireBad (b.take k)) (wireBad a || wireBad (b.take k))) (fun i _ => nb - (intOf i).toNat)
      case atStart => exact ⟨0, by omega, rfl, by simpa [wireB, wireBad] using hres.out⟩
      case round =>
        obtain ⟨k, hk, rfl, hT⟩ := hrel
        by_cases hlt : k < nb
        · obtain ⟨ab, ao, x, hAe, ⟨hkl, hx⟩, hg, c0, c1, c2⟩ := (HB3.out.below hT.low).at k hlt
          subst hAe
          have hl1 := Lib.hid (len_wire_take b k hkl hgb1.out hgb2.out)
          have hl2 : Hid ((wireB a).length ≤ 201000) := Lib.hid (by have := len_wire a; have := hga1.out; have := hga2.out; omega)
          have hw1 := Lib.hid (wireB_take b k hkl)
          have hw2 := Lib.hid (wireBad_take b k hkl)
          rw [hx] at hl1 hw1 hw2
          obtain ⟨xk, xn, xs⟩ := x
          dsimp only at c0 c1 c2 hl1
          obtain ⟨gb, hgb⟩ : ∃ gb, Hid (wr.heap.size = gb) := ⟨_, Lib.hid rfl⟩
          obtain ⟨W1, hW1⟩ : ∃ W1, Hid (wr.alloc (.cells #[.int .i64 xk, .int .i64 xn, .string xs] 32) = W1) := ⟨_, Lib.hid rfl⟩
          have hT1 := hT.lay (.cells #[.int .i64 xk, .int .i64 xn, .string xs] 32)
          rw [hW1.out, hgb.out] at hT1
          have HC := Lib.hid (hT1.w (fun r h1 => put_any bw r _ _ ⟨xk, xn, xs⟩ W1 h1 (by have := hl1.out; dsimp only at this ⊢; omega)))
          clear hT hT1 hx
          go_wp2_with fail
          rw [hW1.out, hgb.out]
          refine HC.out.mono ?_
          rintro e W2 ⟨rfl, hT2⟩
          have hb2 := hT2.got
          have d0 : W2.cell? ⟨gb, 0, none⟩ = some (.int .i64 xk) := by rw [cell_of_row _ _ _ _ _ _ hb2]; rfl
          have d1 : W2.cell? ⟨gb, 1, none⟩ = some (.int .i64 xn) := by rw [cell_of_row _ _ _ _ _ _ hb2]; rfl
          have d2 : W2.cell? ⟨gb, 2, none⟩ = some (.string xs) := by rw [cell_of_row _ _ _ _ _ _ hb2]; rfl
          have HC2 := Lib.hid (hT2.x (fun r h1 => put_any bx r _ _ ⟨xk, xn, xs⟩ W2 h1 (by have := hl1.out; have := hl2.out; rw [List.length_append]; dsimp only at *; omega)))
          clear hT2 hb2 HC
          go_wp2_with fail
          refine HC2.out.mono ?_
          rintro e W3 ⟨rfl, hT3⟩
          have hres : Hid (Tri w3 W3 [] bv bw bx (wireB a) (wireB (b.take (k + 1))) (wireB a ++ wireB (b.take (k + 1))) (wireBad a) (wireBad (b.take (k + 1))) (wireBad a || wireBad (b.take (k + 1)))) := Lib.hid (by
            rw [hw1.out, hw2.out, ← List.append_assoc, ← Bool.or_assoc]; exact hT3.drop)
          clear hT3 HC2
          go_wp2
          go_roundw
          case rel => exact ⟨k + 1, by omega, by go_num, hres.out⟩
          case measure => simp [intOf]; omega
        · rw [List.take_of_length_le (by have := hlenb.out; omega)] at hT
          have hF := hT.f
          have hl2 : Hid ((wireB a).length ≤ 201000) := Lib.hid (by have := len_wire a; have := hga1.out; have := hga2.out; omega)
          have hl3 : Hid ((wireB b).length ≤ 201000) := Lib.hid (by have := len_wire b; have := hgb1.out; have := hgb2.out; omega)
          obtain ⟨fa, hfa⟩ : ∃ f, Hid (wireBad a = f) := ⟨_, Lib.hid rfl⟩
          obtain ⟨fb, hfb⟩ : ∃ f, Hid (wireBad b = f) := ⟨_, Lib.hid rfl⟩
          rw [hfa.out, hfb.out] at hF
          have HF := Lib.hid hF
          clear hT hF
          go_wp2_with fail
          refine HF.out.bad.mono ?_
          rintro e W1 ⟨rfl, rfl⟩
          cases fa
          case true =>
            go_wp2_with fail
            refine HF.out.swap.swap.bad.mono ?_
            rintro e W1 ⟨rfl, rfl⟩
            go_wp2_with fail
            refine (HF.out.swap.swap.str (by rw [List.length_append]; have := hl2.out; have := hl3.out; omega) ⟨#[]⟩ rfl).mono ?_
            rintro e W2 ⟨rfl, h2⟩
            go_wp2
            go_ret
            exact ⟨rfl, below2 hb03.out h2.low⟩
          case false =>
            go_wp2_with fail
            refine HF.out.swap.bad.mono ?_
            rintro e W1 ⟨rfl, rfl⟩
            cases fb
            case true =>
              go_wp2_with fail
              refine HF.out.swap.swap.bad.mono ?_
              rintro e W1 ⟨rfl, rfl⟩
              go_wp2_with fail
              refine (HF.out.swap.swap.str (by rw [List.length_append]; have := hl2.out; have := hl3.out; omega) ⟨#[]⟩ rfl).mono ?_
              rintro e W2 ⟨rfl, h2⟩
              go_wp2
              go_ret
              exact ⟨rfl, below2 hb03.out h2.low⟩
            case false =>
              obtain ⟨sa, hsa⟩ : ∃ s, Hid (saysB (wireB a) false = s) := ⟨_, Lib.hid rfl⟩
              obtain ⟨sb, hsb⟩ : ∃ s, Hid (saysB (wireB b) false = s) := ⟨_, Lib.hid rfl⟩
              have hsx : Hid (saysB (wireB a ++ wireB b) (false || false) = sa ++ sb) := Lib.hid (by rw [← hsa.out, ← hsb.out]; exact says_app _ _)
              go_wp2_with fail
              refine HF.out.swap.swap.bad.mono ?_
              rintro e W1 ⟨rfl, rfl⟩
              go_wp2_with fail
              refine (HF.out.swap.swap.str (by rw [List.length_append]; have := hl2.out; have := hl3.out; omega) _ hsx.out).mono ?_
              rintro e W1 ⟨rfl, h1⟩
              have H1 := Lib.hid h1.swap
              clear h1
              go_wp2_with fail
              refine (H1.out.str (by have := hl2.out; omega) _ hsa.out).mono ?_
              rintro e W2 ⟨rfl, h2⟩
              have H2 := Lib.hid h2.swap
              clear h2
              go_wp2_with fail
              refine (H2.out.str (by have := hl3.out; omega) _ hsb.out).mono ?_
              rintro e W3 ⟨rfl, h3⟩
              have hb3 := Lib.hid h3.low
              clear h3
              have hca : Hid (sa.size ≤ 201000) := Lib.hid (by
                rw [← hsa.out]
                show (wireB a).toArray.size ≤ _
                have := hl2.out
                simpa using this)
              have hcb : Hid (sb.size ≤ 201000) := Lib.hid (by
                rw [← hsb.out]
                show (wireB b).toArray.size ≤ _
                have := hl3.out
                simpa using this)
              have hcat : sa.size + sb.size ≤ 402000 := by have := hca.out; have := hcb.out; omega
              go_wp2
              go_ret
              exact ⟨rfl, below2 hb03.out hb3.out⟩
theorem joins_row (w : World) (s t : Sl Th) (hs : SlOk w 3 32 encTh goodTh s) (ht : SlOk w 3 32 encTh goodTh t) :
    Calls Try.prog 3 #[.slice s.A s.n s.c, .slice t.A t.n t.c] w fun e w' => e = .returned (.bool true) ∧ Below w.heap.size w w' :=
  joins_walk w s.A t.A s.n s.c t.n t.c s.xs t.xs (things_of hs) (things_of ht)
end Go.Proofs.Ytfpocddpnoighaa.Wr

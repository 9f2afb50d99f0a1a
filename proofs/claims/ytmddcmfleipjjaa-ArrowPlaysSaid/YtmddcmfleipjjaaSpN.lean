/- Children, Neighbours, the document's Far; SpanTrees. -/
import Derived.Test.YtmddcmfleipjjaaSpJ
import Derived.Test.YtmddcmfleipjjaaO
namespace Go.Proofs.Ytmddcmfleipjjaa.Sp
open Go.RowKit Go.Proofs.Ytmddcmfleipjjaa.L Go.Proofs.Ytmddcmfleipjjaa.A Go.Proofs.Ytmddcmfleipjjaa.R Go.Proofs.Ytmddcmfleipjjaa.T Go.Proofs.Ytmddcmfleipjjaa.F Go.Proofs.Ytmddcmfleipjjaa.S
set_option linter.unusedVariables false
set_option linter.unusedSimpArgs false

def childL (n t : Int) : List Int := if hasB t [n] then [2 * n, 2 * n + 1].filter fun c => hasB t [c] else []
def neighL (n t : Int) : List Int := if hasB t [n, parI n] then parI n :: childL n t else childL n t
set_option maxHeartbeats 4000000 in
theorem children_any (n t : Int) (w : World) (hn : -9223372036854775808 ≤ n ∧ n ≤ 9223372036854775807) : Calls Try.prog 30 #[.int .i64 n, .int .i64 t] w (Gives w (childL n t)) := by
  have hr0 : Rd (w.alloc (.cells #[.int .i64 n] 3)) (some ⟨w.heap.size, 0, none⟩) 1 ([n].map (Value.int .i64)) := rd_block (xs := [.int .i64 n]) (heap_alloc_new _ _) rfl (by omega)
  obtain ⟨P, hP⟩ : ∃ P, Hid (childL n t = P) := ⟨_, Lib.hid rfl⟩
  rw [hP.out]
  cases hh : hasB t [n] with
  | false =>
    have hPn : Hid (P = []) := Lib.hid (by rw [← hP.out]; simp [childL, hh])
    have HC := Lib.hid (has_any t _ 1 1 [n] _ hr0 false hh)
    clear hh hr0
    go_enter Try.func30, Try.ntmps30
    go_wp2_with fail
    refine HC.out.mono ?_
    rintro e w1 ⟨rfl, hb1⟩
    go_wp2
    go_ret
    exact ⟨_, rfl, by rw [hPn.out]; exact World.ownsRow_nil _ _ _ _, below2 (below_alloc _ _) hb1⟩
  | true =>
    have hrng : 1 ≤ n ∧ n ≤ t ∧ t ≤ 16 := by simp [hasB, offB] at hh; omega
    have hPn : Hid (P = [2 * n, 2 * n + 1].filter fun c => hasB t [c]) := Lib.hid (by rw [← hP.out]; simp [childL, hh])
    have HC := Lib.hid (has_any t _ 1 1 [n] _ hr0 true hh)
    have m64 : IntKind.i64.wrap (2 * n) = 2 * n := IntWalk.i64_in _ (by omega)
    obtain ⟨X, hX⟩ : ∃ X, Hid ([2 * n, 2 * n + 1] = X) := ⟨_, Lib.hid rfl⟩
    have hXl : Hid (X.length = 2) := Lib.hid (by rw [← hX.out]; rfl)
    rw [hX.out] at hPn
    clear hh hr0 hn
    go_enter Try.func30, Try.ntmps30
    go_wp2_with fail
    refine HC.out.mono ?_
    rintro e w1 ⟨rfl, hb1⟩
    have HB1 := Lib.hid (below2 (below_alloc w (.cells #[.int .i64 n] 3)) hb1)
    clear hb1 HC m64
    go_wp2_with fail
    obtain ⟨gx, hgx⟩ : ∃ gx, Hid (w1.heap.size = gx) := ⟨_, Lib.hid rfl⟩
    obtain ⟨W, hW⟩ : ∃ W, Hid (w1.alloc (.cells #[.int .i64 (2 * n), .int .i64 (2 * n + 1)] 3) = W) := ⟨_, Lib.hid rfl⟩
    have hbW : Hid (Below w1.heap.size w1 W) := Lib.hid (by rw [← hW.out]; exact below_alloc _ _)
    have hrW : Hid (Rd W (some ⟨gx, 0, none⟩) 2 (ints X)) := Lib.hid (by
      rw [← hX.out, ← hW.out, ← hgx.out]
      exact rd_block (xs := [.int .i64 (2 * n), .int .i64 (2 * n + 1)]) (heap_alloc_new _ _) rfl (by omega))
    rw [hW.out, hgx.out]
    go_loopg [6, 22] 2 (fun gk v i wr => ∃ k q : Nat, gk = 2 - k ∧ k ≤ 2 ∧ q ≤ k ∧ i = .int .i64 k ∧ wr.ownsRow W.heap.size 3 1 v q (ints ((X.take k).filter fun c => hasB t [c])) ∧ Below W.heap.size W wr ∧ Hid (((X.take k).filter fun c => hasB t [c]).length = q))
    case atStart => exact ⟨0, 0, by omega, by omega, by omega, rfl, World.ownsRow_nil _ _ _ _, Below.refl _ _, Lib.hid rfl⟩
    case round =>
      obtain ⟨k, q, rfl, hk, hq, rfl, ho, hb, hl⟩ := hrel
      by_cases hlt : k < 2
      · have hkX : k < X.length := by rw [hXl.out]; exact hlt
        have hc := (hrW.out.below hb).2.2 (by omega)
        obtain ⟨g1, o1, hA, hc⟩ := hc
        cases hA
        obtain ⟨x, hx⟩ : ∃ x, Hid (X[k] = x) := ⟨_, Lib.hid rfl⟩
        have hcell := hc k hlt
        rw [ints, List.getElem?_map, List.getElem?_eq_getElem hkX, hx.out, Nat.zero_add] at hcell
        simp only [Option.map_some] at hcell
        have htake : Hid (X.take (k + 1) = X.take k ++ [x]) := Lib.hid (by rw [List.take_succ_eq_append_getElem hkX, hx.out])
        have HO := Lib.hid ho
        have HB := Lib.hid hb
        obtain ⟨r, hr⟩ : ∃ r, Hid (hasB t [x] = r) := ⟨_, Lib.hid rfl⟩
        have HC2 := Lib.hid (has_any t _ 1 1 [x] _ (rd_block (xs := [.int .i64 x]) (heap_alloc_new wr (.cells #[.int .i64 x] 3)) rfl (by omega)) r hr.out)
        clear ho hb hc
        cases r
        · have hf : Hid ((X.take (k + 1)).filter (fun c => hasB t [c]) = (X.take k).filter fun c => hasB t [c]) := Lib.hid (by rw [htake.out, List.filter_append]; simp [hr.out])
          go_wp2_with fail
          refine HC2.out.mono ?_
          rintro e w4 ⟨rfl, hb4⟩
          have hb5 := below2 (below_alloc wr (.cells #[.int .i64 x] 3)) hb4
          go_wp2
          go_roundg (2 - (k + 1))
          case measure => omega
          case rel => exact ⟨k + 1, q, rfl, by omega, by omega, by go_num, by rw [hf.out]; exact own_kept HO.out hb5, below2 HB.out hb5, Lib.hid (by rw [hf.out]; exact hl.out)⟩
        · have hf : Hid ((X.take (k + 1)).filter (fun c => hasB t [c]) = (X.take k).filter (fun c => hasB t [c]) ++ [x]) := Lib.hid (by rw [htake.out, List.filter_append]; simp [hr.out])
          go_wp2_with fail
          refine HC2.out.mono ?_
          rintro e w4 ⟨rfl, hb4⟩
          have hb5 := below2 (below_alloc wr (.cells #[.int .i64 x] 3)) hb4
          have ho4 := own_kept HO.out hb5
          have HO4 := Lib.hid ho4
          have HB4 := Lib.hid (below2 HB.out hb5)
          have hbs : W.heap.size ≤ (w4.alloc (.cells #[.int .i64 x] 3)).heap.size := by have := HB4.out.size; simp; omega
          clear hb4 hb5
          go_wp2_with (at_builtin; refine wpList_append_src _ rfl (.tmp 30) (.tmp 32) W.heap.size 47 3 (.int .i64 0) 1 8 rfl (by kernel_rfl) (by kernel_rfl) rfl (by decide) (by decide) _ q _ rfl (ho4.alloc _) (some ⟨w4.heap.size, 0, none⟩) 1 1 rfl (fun h => by cases h) [.int .i64 x] rfl (lies_block (heap_alloc_new _ _)) (by simp [Value.oneCell']) (by omega) hbs ?_; intro v1 w5 ho1 hg1 hv1)
          have hb6 := below_app HO4.out HB4.out.size hg1
          go_roundg (2 - (k + 1))
          case measure => omega
          case rel => exact ⟨k + 1, q + 1, rfl, by omega, by omega, by go_num, by rw [hf.out]; simpa [ints] using ho1, HB4.out.trans hb6, Lib.hid (by rw [hf.out, List.length_append, hl.out]; rfl)⟩
      · have hke : k = 2 := by omega
        subst hke
        have hfin : Hid ((X.take 2).filter (fun c => hasB t [c]) = P) := Lib.hid (by rw [hPn.out, List.take_of_length_le (by rw [hXl.out]; exact Nat.le_refl _)])
        rw [hfin.out] at ho hl
        have HO := Lib.hid ho
        have HB := Lib.hid (below2 HB1.out hbW.out)
        clear ho hk hlt
        go_wp2
        go_ret
        exact ⟨_, rfl, by rw [hl.out]; exact own_base HO.out HB.out.size, HB.out.trans (hb.mono HB.out.size)⟩
set_option maxHeartbeats 2000000 in
theorem neighbours_any (n t : Int) (w : World) (hn : -9223372036854775808 ≤ n ∧ n ≤ 9223372036854775807) : Calls Try.prog 24 #[.int .i64 n, .int .i64 t] w (Gives w (neighL n t)) := by
  obtain ⟨P, hP⟩ : ∃ P, Hid (neighL n t = P) := ⟨_, Lib.hid rfl⟩
  have hP2 := Lib.hid hP.out
  unfold neighL at hP2
  rw [hP.out]
  obtain ⟨C, hC⟩ : ∃ C, Hid (childL n t = C) := ⟨_, Lib.hid rfl⟩
  have hCl : C.length ≤ 2 := by
    rw [← hC.out]
    unfold childL
    split
    · exact List.length_filter_le _ _
    · simp
  obtain ⟨p, hp⟩ : ∃ p, Hid (parI n = p) := ⟨_, Lib.hid rfl⟩
  rw [hC.out, hp.out] at hP2
  have HC := Lib.hid (children_any n t w hn)
  have HPar := Lib.hid fun w1 => parent_any n w1 hn
  rw [hC.out] at HC
  rw [hp.out] at HPar
  clear hn
  cases hh : hasB t [n, p] with
  | false =>
    have hPn : Hid (P = C) := Lib.hid (by rw [← hP2.out, hh]; rfl)
    go_enter Try.func24, Try.ntmps24
    go_wp2_with fail
    refine HC.out.mono ?_
    rintro e w1 ⟨v, rfl, ho, hb1⟩
    have HO := Lib.hid ho
    clear ho
    go_wp2_with fail
    refine (HPar.out w1).mono ?_
    rintro e w2 ⟨rfl, rfl⟩
    go_wp2_with fail
    refine (has_any t _ 2 2 [n, p] _ (rd_block (xs := [.int .i64 n, .int .i64 p]) (heap_alloc_new _ _) rfl (by omega)) false hh).mono ?_
    rintro e w3 ⟨rfl, hb3⟩
    have hb4 := below2 (below_alloc w1 (.cells #[.int .i64 n, .int .i64 p] 3)) hb3
    clear hh
    go_wp2
    go_ret
    exact ⟨_, rfl, by rw [hPn.out]; exact own_kept HO.out hb4, below2 hb1 hb4⟩
  | true =>
    have hPn : Hid (P = p :: C) := Lib.hid (by rw [← hP2.out, hh]; rfl)
    go_enter Try.func24, Try.ntmps24
    go_wp2_with fail
    refine HC.out.mono ?_
    rintro e w1 ⟨v, rfl, ho, hb1⟩
    obtain ⟨A, c, rfl, hr, hnn⟩ := own_rd ho
    obtain ⟨q, hq⟩ : ∃ q, Hid (C.length = q) := ⟨_, Lib.hid rfl⟩
    rw [hq.out] at hr hnn hCl ⊢
    have HR := Lib.hid hr
    have HN := Lib.hid hnn
    have HB1 := Lib.hid hb1
    clear ho hr hnn hb1 HC
    go_wp2_with fail
    refine (HPar.out w1).mono ?_
    rintro e w2 ⟨rfl, rfl⟩
    go_wp2_with fail
    refine (has_any t _ 2 2 [n, p] _ (rd_block (xs := [.int .i64 n, .int .i64 p]) (heap_alloc_new _ _) rfl (by omega)) true hh).mono ?_
    rintro e w3 ⟨rfl, hb3⟩
    have HB4 := Lib.hid (below2 (below_alloc w1 (.cells #[.int .i64 n, .int .i64 p] 3)) hb3)
    have HL := Lib.hid (Rd.lies ((HR.out.below HB4.out).below (below_alloc w3 (.cells #[.int .i64 p] 3))))
    clear hh hb3
    go_wp2_with (at_builtin; refine wpList_append_src _ rfl (.tmp 18) (.tmp 19) w3.heap.size 47 3 (.int .i64 0) 1 8 rfl (by kernel_rfl) (by kernel_rfl) rfl (by decide) (by decide) _ 1 [.int .i64 p] rfl (World.ownsRow_lit (size := 1) w3 #[.int .i64 p] 1 (Nat.le_refl _) (by decide) rfl) A q c rfl HN.out (ints C) (by rw [ints, List.length_map, hq.out]; omega) HL.out (ints_one _) (by omega) (by simp) ?_; intro v1 w5 ho1 hg1 hv1)
    go_ret
    have hs := Nat.le_trans HB1.out.size HB4.out.size
    have hb5 : Below w3.heap.size w3 w5 := (below_alloc _ _).trans (below_of_grown hg1 (by simp) fun k hk => Nat.le_of_eq (Option.some.inj hk))
    refine ⟨_, rfl, ?_, (below2 HB1.out HB4.out).trans (hb5.mono hs)⟩
    rw [hPn.out, List.length_cons, hq.out, Nat.add_comm]
    exact own_base ho1 hs
end Go.Proofs.Ytmddcmfleipjjaa.Sp

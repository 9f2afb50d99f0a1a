/- arrow: rows of arrows; grow; the document's example; the law ArrowNone. -/
import Derived.Test.YtmddcmfleipjjaaArB
import Derived.Test.YtmddcmfleipjjaaG
import Derived.Test.YtmddcmfleipjjaaO
namespace Go.Proofs.Ytmddcmfleipjjaa.Ar
open Go.RowKit Go.Proofs.Ytmddcmfleipjjaa.L Go.Proofs.Ytmddcmfleipjjaa.A Go.Proofs.Ytmddcmfleipjjaa.R Go.Proofs.Ytmddcmfleipjjaa.T Go.Proofs.Ytmddcmfleipjjaa.F Go.Proofs.Ytmddcmfleipjjaa.S Go.Proofs.Ytmddcmfleipjjaa.Sp Go.Proofs.Ytmddcmfleipjjaa.G Go.Proofs.Ytmddcmfleipjjaa.O
set_option linter.unusedVariables false
set_option linter.unusedSimpArgs false

def towF (a b : Nat) : Int := match pathF a b with
  | [] => 0
  | [_] => a
  | _ :: y :: _ => y
def chkT : Bool := all1 fun a => all1 fun b => towF a b == (T a b : Int)
theorem chkT_ok : chkT = true := by kernel_rfl
theorem tow_T {N a b : Nat} (hN : N ≤ 16) (ha : In N a) (hb : In N b) : towI (a : Int) (b : Int) (N : Int) = (T a b : Int) := by
  have h := all1_at (all1_at chkT_ok (ha.up hN).1 (ha.up hN).2) (hb.up hN).1 (hb.up hN).2
  rw [beq_iff_eq] at h
  rw [← h]
  unfold towI towF
  rw [path_eq ha hb hN]
  rcases pathF a b with _ | ⟨_, _ | ⟨_, _⟩⟩ <;> rfl
abbrev A3 := Int × Int × Int
def encA (x : A3) : List Value := [.int .i64 x.1, .int .i64 x.2.1, .int .i64 x.2.2]
theorem encA_len (x : A3) : (encA x).length = 3 := rfl
def grL (N ow k : Nat) : List A3 := (0, 0, 0) :: (List.range k).map fun m : Nat => ((m : Int) + 1, (N : Int), (T (m + 1) ow : Int))
theorem grL_next (N ow k : Nat) : grL N ow (k + 1) = grL N ow k ++ [((k : Int) + 1, (N : Int), (T (k + 1) ow : Int))] := by
  simp [grL, List.range_succ]
theorem own_form3 {w : World} {base n : Nat} {e : TypeId} {v : Value} {xs : List Value} (h : w.ownsRow base e 3 v n xs) : ∃ A c, v = .slice A n c := by
  rcases h.2 with ⟨hv, hn⟩ | ⟨g, cap, cur, hv, _⟩
  · exact ⟨none, 0, by rw [hv, hn]⟩
  · exact ⟨some ⟨g, 0, none⟩, cap, hv⟩
set_option maxHeartbeats 4000000 in
set_option maxRecDepth 100000 in
theorem grow_any (N ow : Nat) (hN : N ≤ 16) (how : In N ow) (w : World) :
    Calls Try.prog 8 #[.int .i64 N, .int .i64 ow] w fun e w' => ∃ v, e = .returned (.tuple #[v, .bool true]) ∧ w'.ownsRow w.heap.size AR 3 v (N + 1) ((grL N ow N).flatMap encA) ∧ Below w.heap.size w w' := by
  have HNEW : Hid (∀ (k : Nat) (W : World), k < N → Calls Try.prog 21 #[.int .i64 ((k : Int) + 1), .int .i64 N, .int .i64 ow] W fun e w' => e = .returned (.tuple #[.agg #[.int .i64 ((k : Int) + 1), .int .i64 N, .int .i64 (T (k + 1) ow : Int)], .int .i64 0]) ∧ Below W.heap.size W w') := Lib.hid fun k W hk => by
    have h := new_any ((k : Int) + 1) N ow W
    have hi : In N (k + 1) := ⟨by omega, by omega⟩
    have e := tow_T hN hi how
    rw [show ((k + 1 : Nat) : Int) = (k : Int) + 1 by omega] at e
    have ht := t_in hN hi how
    rw [e, if_neg (by have := ht.1; omega)] at h
    exact h
  obtain ⟨W0, hW0⟩ : ∃ W0, Hid (w.alloc (.cells #[.int .i64 0, .int .i64 0, .int .i64 0] AR) = W0) := ⟨_, Lib.hid rfl⟩
  obtain ⟨gb, hgb⟩ : ∃ gb, Hid (w.heap.size = gb) := ⟨_, Lib.hid rfl⟩
  have HO0 : Hid (W0.ownsRow w.heap.size AR 3 (.slice (some ⟨gb, 0, none⟩) 1 1) 1 ((grL N ow 0).flatMap encA) ∧ Below w.heap.size w W0) := Lib.hid (by
    rw [← hW0.out, ← hgb.out]
    exact ⟨World.ownsRow_lit (size := 3) w #[.int .i64 0, .int .i64 0, .int .i64 0] 1 (Nat.le_refl _) (by decide) rfl, below_alloc _ _⟩)
  go_enter Try.func8, Try.ntmps8
  go_wp2_with fail
  rw [hW0.out, hgb.out]
  go_loopw [6, 7] (fun v i wr => ∃ k : Nat, k ≤ N ∧ i = .int .i64 ((k : Int) + 1) ∧ wr.ownsRow w.heap.size AR 3 v (k + 1) ((grL N ow k).flatMap encA) ∧ Below w.heap.size w wr) (fun _ i _ => ((N : Int) + 1 - intOf i).toNat)
  case atStart => exact ⟨0, by omega, rfl, HO0.out.1, HO0.out.2⟩
  case round =>
    obtain ⟨k, hk, rfl, ho, hb⟩ := hrel
    by_cases hlt : k < N
    · have hd : decide ((k : Int) + 1 ≤ (N : Int)) = true := by simp; omega
      have HX := Lib.hid (HNEW.out k wr hlt)
      have HGN := Lib.hid (grL_next N ow k)
      obtain ⟨x, hx⟩ : ∃ x : Int, (T (k + 1) ow : Int) = x := ⟨_, rfl⟩
      rw [hx] at HX HGN
      obtain ⟨A3', c3', rfl⟩ := own_form3 ho
      obtain ⟨F, hF⟩ : ∃ F, (grL N ow k).flatMap encA = F := ⟨_, rfl⟩
      have HFE := Lib.hid hF
      rw [hF] at ho
      have HO := Lib.hid ho
      have HB := Lib.hid hb
      clear ho hb hx hF
      go_wp2_with fail
      refine HX.out.mono ?_
      rintro e w1 ⟨rfl, hb1⟩
      obtain ⟨W, hW⟩ : ∃ W, Hid ((w1.alloc (.cells #[.int .i64 ((k : Int) + 1), .int .i64 N, .int .i64 x] AR)).alloc (.cells #[.int .i64 ((k : Int) + 1), .int .i64 N, .int .i64 x] AR) = W) := ⟨_, Lib.hid rfl⟩
      have hbW : Below w1.heap.size w1 W := by rw [← hW.out]; exact below2 (below_alloc _ _) (below_alloc _ _)
      have g1 : W.heap[w1.heap.size + 1]? = some (.cells #[.int .i64 ((k : Int) + 1), .int .i64 N, .int .i64 x] AR (0, 0)) := by
        rw [← hW.out]
        have := heap_alloc_new (w1.alloc (.cells #[.int .i64 ((k : Int) + 1), .int .i64 N, .int .i64 x] AR)) (.cells #[.int .i64 ((k : Int) + 1), .int .i64 N, .int .i64 x] AR)
        rw [World.size_alloc] at this
        exact this
      have HO2 := Lib.hid (own_kept (own_kept HO.out hb1) hbW)
      have HB2 := Lib.hid (below2 (below2 HB.out hb1) hbW)
      have HLI := Lib.hid (lies_block g1)
      have HWS : Hid (w.heap.size ≤ W.heap.size) := Lib.hid HB2.out.size
      clear hb1 hbW g1
      go_wp2_with (first | (at_builtin; rw [hW.out]; refine wpList_append_src _ rfl (.tmp 26) (.tmp 28) w.heap.size 24 AR (.agg #[.int .i64 0, .int .i64 0, .int .i64 0]) 3 24 rfl (by kernel_rfl) (by kernel_rfl) rfl (by decide) (by decide) _ (k + 1) F rfl HO2.out (some ⟨w1.heap.size + 1, 0, none⟩) 1 1 rfl (fun h => by cases h) [.int .i64 ((k : Int) + 1), .int .i64 N, .int .i64 x] rfl HLI.out (by simp [Value.oneCell']) (by omega) HWS.out ?_; intro v1 w2 ho1 hg1 hv1))
      go_roundw
      case rel => exact ⟨k + 1, by omega, by go_num, by rw [HGN.out, List.flatMap_append, HFE.out]; exact ho1, HB2.out.trans (below_next HO2.out HWS.out hg1)⟩
      case measure => simp [intOf]; omega
    · obtain rfl : k = N := by omega
      have hd : decide ((k : Int) + 1 ≤ (k : Int)) = false := by simp; omega
      obtain ⟨A3', c3', rfl⟩ := own_form3 ho
      have HO := Lib.hid (And.intro ho hb)
      clear ho hb
      go_wp2
      refine bodyPost_ret (v := .tuple #[.slice A3' (k + 1) c3', .bool true]) (by simp [results, Try.results8, go_sem]) rfl ?_
      exact ⟨_, rfl, HO.out.1, HO.out.2⟩
section
variable {W W' : World} {base g n c o : Nat} {xs : List Value} {a t x y : Int}
theorem rr_own (h : W.ownsRow base AR 3 (.slice (some ⟨g, 0, none⟩) n c) n xs) (h0 : xs[o]? = some (.int .i64 a)) (h1 : xs[o + 1]? = some (.int .i64 t)) (h2 : xs[o + 2]? = some (.int .i64 x)) : Rr W g o a t x := by
  obtain ⟨-, -, -, hle, -, hc, hr⟩ := own_some h
  have hl : xs.length = n * 3 := h.1
  have := (List.getElem?_eq_some_iff.1 h2).1
  have : n * 3 ≤ c * 3 := Nat.mul_le_mul_right 3 hle
  exact ⟨hr _ _ h0, hr _ _ h1, hr _ _ h2, (hc _ (by omega)).2⟩
theorem turned_own (h : W.ownsRow base AR 3 (.slice (some ⟨g, 0, none⟩) n c) n xs) (ho : o + 2 < n * 3) (hb : base ≤ W.heap.size) (ht : Turned g o y W W') : W'.ownsRow base AR 3 (.slice (some ⟨g, 0, none⟩) n c) n (xs.set (o + 2) (.int .i64 y)) ∧ Below base W W' := by
  obtain ⟨W0, h1, rfl⟩ := ht
  obtain ⟨g1, g2⟩ := own_put (o + 2) (.int .i64 y) (own_kept h h1) ho
  have := (own_some h).2.1
  exact ⟨g1, (h1.mono hb).trans (g2.below (Nat.le_trans hb h1.size) fun k hk => by simp at hk; omega)⟩
end
set_option maxHeartbeats 4000000 in
set_option maxRecDepth 100000 in
theorem awake_any (w : World) : Calls Try.prog 7 #[] w fun e w' => e = .returned (.bool true) ∧ Below w.heap.size w w' := by
  have HG := Lib.hid (grow_any 3 2 (by omega) ⟨by omega, by omega⟩ w)
  go_enter Try.func7, Try.ntmps7
  go_wp2_with fail
  refine HG.out.mono ?_
  rintro e w1 ⟨v, rfl, ho, hb⟩
  have hx : (grL 3 2 3).flatMap encA = [.int .i64 0, .int .i64 0, .int .i64 0, .int .i64 1, .int .i64 3, .int .i64 2, .int .i64 2, .int .i64 3, .int .i64 2, .int .i64 3, .int .i64 3, .int .i64 1] := by kernel_rfl
  rw [hx] at ho
  obtain ⟨g, c, rfl⟩ : ∃ g c, v = .slice (some ⟨g, 0, none⟩) 4 c := by
    rcases ho.2 with ⟨_, hn⟩ | ⟨g, cap, cur, hv, _⟩
    · omega
    · exact ⟨g, cap, hv⟩
  have HW1 := Lib.hid (want_any g 9 3 3 1 w1 (rr_own ho rfl rfl rfl))
  have HO1 := Lib.hid (And.intro ho hb)
  clear ho hb hx
  go_wp2_with fail
  refine HW1.out.mono ?_
  rintro e w2 ⟨rfl, ht⟩
  obtain ⟨ho2, hb2⟩ := turned_own HO1.out.1 (by omega) HO1.out.2.size ht
  have HO2 := Lib.hid (And.intro ho2 (HO1.out.2.trans hb2))
  have hf := find_any g 3 1 3 2 3 w2 (rr_own ho2 rfl rfl rfl) (by omega)
  have hcn : (neighL 1 3).contains 3 = true := by kernel_rfl
  simp only [hcn, if_true] at hf
  clear hcn
  have HF2 := Lib.hid hf
  clear ho2 hb2 ht hf
  go_wp2_with fail
  refine HF2.out.mono ?_
  rintro e w3 ⟨rfl, ht⟩
  obtain ⟨ho3, hb3⟩ := turned_own HO2.out.1 (by omega) HO2.out.2.size ht
  have HO3 := Lib.hid (And.intro ho3 (HO2.out.2.trans hb3))
  have hf := find_any g 6 2 3 2 1 w3 (rr_own ho3 rfl rfl rfl) (by omega)
  have hcn : (neighL 2 3).contains 1 = true := by kernel_rfl
  simp only [hcn, if_true] at hf
  clear hcn
  have HF3 := Lib.hid hf
  clear ho3 hb3 ht hf
  go_wp2_with fail
  refine HF3.out.mono ?_
  rintro e w4 ⟨rfl, ht⟩
  obtain ⟨ho4, hb4⟩ := turned_own HO3.out.1 (by omega) HO3.out.2.size ht
  have HB4 := Lib.hid (HO3.out.2.trans hb4)
  obtain ⟨-, -, a2, -⟩ := rr_own (o := 3) ho4 rfl rfl rfl
  obtain ⟨-, -, b2, -⟩ := rr_own (o := 6) ho4 rfl rfl rfl
  have HH := Lib.hid (home_any g 9 3 3 3 w4 (rr_own ho4 rfl rfl rfl))
  clear ho4 hb4 ht
  go_wp2_with fail
  refine HH.out.mono ?_
  rintro e w5 ⟨rfl, hb5⟩
  have HB5 := Lib.hid (below2 HB4.out hb5)
  clear hb5
  go_wp2
  go_ret
  exact ⟨rfl, HB5.out⟩
set_option maxHeartbeats 4000000 in
theorem none_row (w : World) (a b : Int) (ha : (Lit.int .i64 a).wf = true) (hb : (Lit.int .i64 b).wf = true) :
    Calls Try.prog 5 #[.int .i64 a, .int .i64 b] w fun e w' => e = .returned (.bool true) ∧ Below w.heap.size w w' := by
  have HA := Lib.hid (awake_any w)
  clear ha hb
  go_enter Try.func5, Try.ntmps5
  go_wp2_with fail
  refine HA.out.mono ?_
  rintro e w1 ⟨rfl, hb1⟩
  have HB1 := Lib.hid hb1
  clear hb1
  go_wp2_with fail
  refine (bwant_nil a w1).mono ?_
  rintro e w2 ⟨rfl, rfl⟩
  go_wp2_with fail
  refine (bfind_nil a b w1).mono ?_
  rintro e w2 ⟨rfl, rfl⟩
  go_wp2_with fail
  refine (bpoint_nil a b w1).mono ?_
  rintro e w2 ⟨rfl, rfl⟩
  go_wp2_with fail
  refine (bto_nil a w1).mono ?_
  rintro e w2 ⟨rfl, rfl⟩
  go_wp2
  go_ret
  exact ⟨rfl, HB1.out⟩
end Go.Proofs.Ytmddcmfleipjjaa.Ar

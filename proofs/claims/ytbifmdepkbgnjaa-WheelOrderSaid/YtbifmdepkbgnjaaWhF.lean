/- wheel: the document's example; the law WheelNone. -/
import Derived.Test.YtbifmdepkbgnjaaWhE
namespace Go.Proofs.Ytbifmdepkbgnjaa.Wh
open Go.RowKit Go.Proofs.Ytbifmdepkbgnjaa.L Go.Proofs.Ytbifmdepkbgnjaa.R Go.Proofs.Ytbifmdepkbgnjaa.A Go.Proofs.Ytbifmdepkbgnjaa.S Go.Proofs.Ytbifmdepkbgnjaa.T Go.Proofs.Ytbifmdepkbgnjaa.C Go.Proofs.Ytbifmdepkbgnjaa.G Go.Proofs.Ytbifmdepkbgnjaa.E Go.Proofs.Ytbifmdepkbgnjaa.F Go.Proofs.Ytbifmdepkbgnjaa.O
set_option linter.unusedVariables false
set_option linter.unusedSimpArgs false

def kA : Ky := (1, 0, 0, 0, 0, 0)
set_option maxHeartbeats 4000000 in
set_option maxRecDepth 100000 in
theorem awake_any (w : World) : Calls Try.prog 7 #[] w fun e w' => e = .returned (.bool true) ∧ Below w.heap.size w w' := by
  have HN := Lib.hid (new_any w)
  obtain ⟨b, hb⟩ : ∃ b, Hid (w.heap.size = b) := ⟨_, Lib.hid rfl⟩
  rw [hb.out] at HN
  have HSET : Hid (∀ v W, Wh W b 0 v [] → Calls Try.prog 9 #[.pointer (some ⟨b, 0, none⟩), .agg #[.int .i64 1, .int .i64 0, .int .i64 0, .int .i64 0, .int .i64 0, .int .i64 0], .int .i64 2] W fun e w' => e = .returned (.int .i64 0) ∧ Goes b v 0 [mkT kA 2] W w') := Lib.hid fun v W h =>
    set_ok b 0 v [] kA 2 W h (by decide) (by decide) (by decide) (.inr (by decide))
  have HT1 : Hid (∀ v W, Wh W b 0 v [mkT kA 2] → Calls Try.prog 11 #[.pointer (some ⟨b, 0, none⟩)] W fun e w' => ∃ A c, e = .returned (.slice A 0 c) ∧ Goes b v 1 [mkT kA 2] W w') := Lib.hid fun v W h => by
    refine (tick_any b 0 v _ W h (by decide) (by decide)).mono ?_
    rintro e w' ⟨u, v', B2, rfl, hu, hw, hc, -⟩
    obtain ⟨A, c, rfl⟩ := own_formN hu
    exact ⟨A, c, rfl, v', hw, hc⟩
  have HT2 : Hid (∀ v W, Wh W b 1 v [mkT kA 2] → Calls Try.prog 11 #[.pointer (some ⟨b, 0, none⟩)] W fun e w' => ∃ A c, e = .returned (.slice A 1 c) ∧ Goes b v 2 [] W w') := Lib.hid fun v W h => by
    refine (tick_any b 1 v _ W h (by decide) (by decide)).mono ?_
    rintro e w' ⟨u, v', B2, rfl, hu, hw, hc, -⟩
    obtain ⟨A, c, rfl⟩ := own_formN hu
    exact ⟨A, c, rfl, v', hw, hc⟩
  have HCB : Hid (∀ v v' w1 w2 : _, Below w.heap.size w w1 → (∀ k, v.ownBlock = some k → b ≤ k) → Chg b v w1 v' w2 → Below w.heap.size w w2 ∧ ∀ k, v'.ownBlock = some k → b ≤ k) := Lib.hid fun v v' w1 w2 h0 hv hc => by
    refine ⟨h0.trans (hc.keep.below h0.size fun x hx => ?_), fun k hk => ?_⟩
    · have := hb.out
      rcases List.mem_cons.1 hx with e | e
      · omega
      · have := hv x (by simpa using e); omega
    · rcases hc.row with e | e
      · exact hv k (e ▸ hk)
      · have := e k hk; have := h0.size; have := hb.out; omega
  go_enter Try.func7, Try.ntmps7
  go_wp2_with fail
  refine HN.out.mono ?_
  rintro e w1 ⟨rfl, hw1, hb1⟩
  have H1 := Lib.hid (hw1.below (below_alloc w1 (.cells #[.int .i64 1, .int .i64 0, .int .i64 0, .int .i64 0, .int .i64 0, .int .i64 0] KT)))
  have HB1 : Hid (Below w.heap.size w (w1.alloc (.cells #[.int .i64 1, .int .i64 0, .int .i64 0, .int .i64 0, .int .i64 0, .int .i64 0] KT))) := Lib.hid (by rw [hb.out]; rw [hb.out] at *; exact hb1.trans ((below_alloc _ _).mono (by have := hw1.lt; omega)))
  clear hw1 hb1
  go_wp2_with fail
  refine (HSET.out _ _ H1.out).mono ?_
  rintro e w2 ⟨rfl, v2, hw2, hc2⟩
  obtain ⟨h2, g2⟩ := HCB.out _ _ _ _ HB1.out (fun k hk => by cases hk) hc2
  have H2 := Lib.hid (And.intro hw2 (And.intro h2 g2))
  clear hw2 hc2 h2 g2
  go_wp2_with fail
  refine (HT1.out _ _ H2.out.1).mono ?_
  rintro e w3 ⟨A3, c3, rfl, v3, hw3, hc3⟩
  obtain ⟨h3, g3⟩ := HCB.out _ _ _ _ H2.out.2.1 H2.out.2.2 hc3
  have H3 := Lib.hid (And.intro hw3 (And.intro h3 g3))
  clear hw3 hc3 h3 g3
  go_wp2_with fail
  refine (HT2.out _ _ H3.out.1).mono ?_
  rintro e w4 ⟨A4, c4, rfl, v4, hw4, hc4⟩
  obtain ⟨h4, g4⟩ := HCB.out _ _ _ _ H3.out.2.1 H3.out.2.2 hc4
  have H4 := Lib.hid (And.intro hw4 h4)
  clear hw4 hc4 h4 g4
  go_wp2_with fail
  refine (now_any b 2 _ _ _ H4.out.1).mono ?_
  rintro e w5 ⟨rfl, rfl⟩
  go_wp2_with fail
  go_ret
  exact ⟨rfl, H4.out.2⟩
set_option maxHeartbeats 4000000 in
set_option maxRecDepth 100000 in
theorem none_walk (w : World) (k : Ky) (n : Int) : Calls Try.prog 6 #[aggK k, .int .i64 n] w fun e w' => e = .returned (.bool true) ∧ Below w.heap.size w w' := by
  obtain ⟨XB, hXB⟩ : ∃ XB, Hid (w.heap.size = XB) := ⟨_, Lib.hid rfl⟩
  obtain ⟨W0, hW0⟩ : ∃ W0, Hid (w.alloc (.cells (encK k).toArray KT) = W0) := ⟨_, Lib.hid rfl⟩
  have hb0 : Below w.heap.size w W0 := by rw [← hW0.out]; exact below_alloc _ _
  have hkb : KB W0 XB k := by rw [← hW0.out, ← hXB.out]; exact heap_alloc_new _ _
  have HA := Lib.hid (awake_any W0)
  have HKC : Hid (∀ W, Below W0.heap.size W0 W → W.cell? ⟨XB, 0, none⟩ = some (.int .i64 k.1) ∧ W.cell? ⟨XB, 1, none⟩ = some (.int .i64 k.2.1) ∧ W.cell? ⟨XB, 2, none⟩ = some (.int .i64 k.2.2.1) ∧ W.cell? ⟨XB, 3, none⟩ = some (.int .i64 k.2.2.2.1) ∧ W.cell? ⟨XB, 4, none⟩ = some (.int .i64 k.2.2.2.2.1) ∧ W.cell? ⟨XB, 5, none⟩ = some (.int .i64 k.2.2.2.2.2)) := Lib.hid fun W hb => (hkb.below hb).cells
  have HDU : Hid (∀ W, Calls Try.prog 20 #[.pointer none, aggK k] W fun e w' => e = .returned (.tuple #[.int .i64 0, .bool false]) ∧ Below W.heap.size W w') := Lib.hid fun W => due_nil k W
  have HSE : Hid (∀ W, Calls Try.prog 9 #[.pointer none, aggK k, .int .i64 n] W fun e w' => e = .returned (.int .i64 1) ∧ Below W.heap.size W w') := Lib.hid fun W => set_nil k n W
  have HB0 := Lib.hid hb0
  clear hb0 hkb
  obtain ⟨a1, a2, a3, a4, a5, a6⟩ := k
  dsimp only [encK, aggK] at hW0 HKC HDU HSE ⊢
  go_enter Try.func6, Try.ntmps6
  go_wp2_with fail
  rw [hW0.out, hXB.out]
  refine HA.out.mono ?_
  rintro e w1 ⟨rfl, hb1⟩
  obtain ⟨k0, k1, k2, k3, k4, k5⟩ := HKC.out w1 hb1
  have HB1 := Lib.hid hb1
  clear hb1
  go_wp2_with fail
  refine (clear_nil _).mono ?_
  rintro e w2 ⟨rfl, rfl⟩
  go_wp2_with fail
  refine (HDU.out _).mono ?_
  rintro e w2 ⟨rfl, hb2⟩
  have HB2 := Lib.hid (below2 HB1.out hb2)
  clear hb2 k0 k1 k2 k3 k4 k5
  obtain ⟨k0, k1, k2, k3, k4, k5⟩ := HKC.out w2 HB2.out
  go_wp2_with fail
  refine (now_nil _).mono ?_
  rintro e w3 ⟨rfl, rfl⟩
  go_wp2_with fail
  refine (HSE.out _).mono ?_
  rintro e w3 ⟨rfl, hb3⟩
  have HB3 := Lib.hid (below2 HB2.out hb3)
  clear hb3 k0 k1 k2 k3 k4 k5
  obtain ⟨k0, k1, k2, k3, k4, k5⟩ := HKC.out w3 HB3.out
  go_wp2_with fail
  refine (stop_nil _ _ _ _).mono ?_
  rintro e w4 ⟨rfl, hb4⟩
  have HB4 := Lib.hid (below2 HB3.out (below2 (below_alloc _ _) hb4))
  clear hb4 k0 k1 k2 k3 k4 k5
  go_wp2_with fail
  refine (tick_nil _).mono ?_
  rintro e w5 ⟨rfl, rfl⟩
  go_wp2_with fail
  refine (keysw_nil _).mono ?_
  rintro e w5 ⟨rfl, rfl⟩
  go_wp2_with fail
  go_ret
  exact ⟨rfl, below2 HB0.out HB4.out⟩
end Go.Proofs.Ytbifmdepkbgnjaa.Wh

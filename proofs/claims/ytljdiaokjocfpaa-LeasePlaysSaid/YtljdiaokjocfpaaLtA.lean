/- LeasePlays: the walk. -/
import Derived.Test.YtljdiaokjocfpaaLtB
import Derived.Deep.LoopGhost
import Derived.Deep.DeepCutAuto
import Derived.Deep.CutBlock
namespace Go.Proofs.Ytljdiaokjocfpaa.Ls
open Go.RowKit Go.Proofs.Ytljdiaokjocfpaa.L Go.Proofs.Ytljdiaokjocfpaa.O Go.Proofs.Ytljdiaokjocfpaa.A Go.Proofs.Ytljdiaokjocfpaa.R Go.Proofs.Ytljdiaokjocfpaa.S Go.Proofs.Ytljdiaokjocfpaa.T
set_option linter.unusedVariables false
set_option linter.unusedSimpArgs false

set_option maxHeartbeats 40000000 in
set_option maxRecDepth 100000 in
theorem plays_walk (w : World) (cells : Int) (A : Option Addr) (n ca : Nat) (ops : List OpR) (hs : Script w A n ops) :
    Calls Try.prog 11 #[.int .i64 cells, .slice A n ca] w fun e w' => e = .returned (.bool true) ∧ Below w.heap.size w w' := by
  have hln := hs.rd.2.1
  have HS := Lib.hid hs
  have hl := Lib.hid hs.len
  clear hs
  obtain ⟨gr, hgr⟩ : ∃ gr, Hid (greatB ops = gr) := ⟨_, Lib.hid rfl⟩
  cases gr
  case true =>
    go_enter Try.func11, Try.ntmps11
    go_wp2_with fail
    refine (awake_any w).mono ?_
    rintro e w1 ⟨rfl, hb1⟩
    go_wp2_with fail
    refine (great_any w1 A n ca ops (HS.out.below hb1) true hgr.out).mono ?_
    rintro e w2 ⟨rfl, hb2⟩
    go_wp2
    go_ret
    exact ⟨rfl, below2 hb1 hb2⟩
  case false =>
    by_cases hc : cells < 1 ∨ 16 < cells
    · go_enter Try.func11, Try.ntmps11
      go_wp2_with fail
      refine (awake_any w).mono ?_
      rintro e w0 ⟨rfl, hb0⟩
      go_wp2_with fail
      refine (great_any w0 A n ca ops (HS.out.below hb0) false hgr.out).mono ?_
      rintro e w1 ⟨rfl, hb1⟩
      go_wp2_with fail
      refine (new_bad cells w1 hc).mono ?_
      rintro e w2 ⟨rfl, rfl⟩
      have hb01 := Lib.hid (below2 hb0 hb1)
      clear hb0 hb1
      rcases hc with hc | hc
      · go_wp2
        go_ret
        exact ⟨rfl, hb01.out⟩
      · have h1 : ¬ cells < 1 := by omega
        go_wp2
        go_ret
        exact ⟨rfl, hb01.out⟩
    · obtain ⟨N, rfl⟩ : ∃ N : Nat, cells = N := ⟨cells.toNat, by omega⟩
      have hn1 : 1 ≤ N := by omega
      have hn2 : N ≤ 16 := by omega
      clear hc
      go_enter Try.func11, Try.ntmps11
      go_wp2_with fail
      refine (awake_any w).mono ?_
      rintro e w0 ⟨rfl, hb0⟩
      go_wp2_with fail
      refine (great_any w0 A n ca ops (HS.out.below hb0) false hgr.out).mono ?_
      rintro e w1 ⟨rfl, hb1⟩
      have HS1 := Lib.hid ((HS.out.below hb0).below hb1)
      have HB := Lib.hid (below2 hb0 hb1)
      clear hb0 hb1
      go_wp2_with fail
      refine (new_any N w1 hn1 hn2).mono ?_
      rintro e w2 ⟨rfl, h2⟩
      obtain ⟨bb, hbb⟩ : ∃ bb, Hid (w1.heap.size + 1 = bb) := ⟨_, Lib.hid rfl⟩
      obtain ⟨gg, hgg⟩ : ∃ gg, Hid (w1.heap.size = gg) := ⟨_, Lib.hid rfl⟩
      rw [hbb.out] at h2 ⊢
      have h2' : LT w1 w2 bb gg (List.replicate N zeroS) := by rw [← hgg.out]; exact h2
      clear h2
      have dn1 : decide ((N : Int) < 1) = false := by simp; omega
      have dn2 : decide (16 < (N : Int)) = false := by simp; omega
      obtain ⟨bw, hbw⟩ : ∃ bw, Hid (w2.heap.size = bw) := ⟨_, Lib.hid rfl⟩
      obtain ⟨W2, hW2⟩ : ∃ W2, Hid (w2.alloc (.cells #[.int .i64 (N : Int), .slice none 0 0] 73) = W2) := ⟨_, Lib.hid rfl⟩
      have hord : gg < bw ∧ bb < bw := by rw [← hbw.out]; exact ⟨h2'.tab.lt.2, h2'.tab.lt.1⟩
      have hL2 : Hid (LT w1 W2 bb gg (List.replicate N zeroS)) := Lib.hid (h2'.below (by rw [← hW2.out]; exact below_alloc _ _))
      have hD2 : Hid (Doc W2 bw N none 0 (toD (List.replicate N zeroS))) := Lib.hid (by
        have e : toD (List.replicate N zeroS) = [] := List.eq_nil_of_length_eq_zero (by unfold toD; rw [toDf_len]; simp [heldN, zeroS])
        rw [e]
        exact ⟨by rw [← hW2.out, ← hbw.out]; exact heap_alloc_new _ _, World.ownsRow_nil _ _ _ _, by simp, hn2⟩)
      go_wp2_with fail
      rw [hW2.out, hbw.out]
      clear dn1 dn2
      go_loopg [49] n (fun gk i wr => ∃ (k : Nat) (T : List Slt) (A' : Option Addr) (ca' : Nat), gk = n - k ∧ k ≤ n ∧ i = .int .i64 k ∧ LT w1 wr bb gg T ∧ T.length = N ∧ Doc wr bw N A' ca' (toD T))
      case atStart => exact ⟨0, _, _, _, by omega, by omega, rfl, hL2.out, by simp, hD2.out⟩
      case round =>
        obtain ⟨k, T, A', ca', rfl, hk, rfl, hL, hT, hD⟩ := hrel
        by_cases hlt : k < n
        · obtain ⟨ab, ao, x, hA, ⟨hkl, hx⟩, hab, c0, c1, c2, c3, c4, c5⟩ := (HS1.out.below hL.low).at k hlt
          subst hA
          have hXI := HS1.out.ls x (by rw [← hx]; exact List.getElem_mem _)
          have HX := Lib.hid hXI
          obtain ⟨xk, xn, xa, xb, xc, ⟨LA, Ln, Lc, Lxs⟩⟩ := x
          dsimp only at c0 c1 c2 c3 c4 c5
          have HI : Hid (OpIn w1 gg ⟨xk, xn, xa, xb, xc, ⟨LA, Ln, Lc, Lxs⟩⟩) := Lib.hid ⟨HX.out.1, fun h0 p hp => HX.out.2.2 h0 p hp⟩
          obtain ⟨ob, hob⟩ : ∃ ob, Hid (wr.heap.size = ob) := ⟨_, Lib.hid rfl⟩
          obtain ⟨W, hW⟩ : ∃ W, Hid (wr.alloc (.cells #[.int .i64 xk, .int .i64 xn, .int .i64 xa, .int .i64 xb, .int .i64 xc, .slice LA Ln Lc] 65) = W) := ⟨_, Lib.hid rfl⟩
          have hbW : Hid (Below wr.heap.size wr W) := Lib.hid (by rw [← hW.out]; exact below_alloc _ _)
          have hSt : Hid (St w1 W bb gg bw ob N T T ⟨xk, xn, xa, xb, xc, ⟨LA, Ln, Lc, Lxs⟩⟩) := Lib.hid ⟨hL.below hbW.out, hT, hT, ⟨A', ca', hD.below hbW.out, fun p hp => by
              rcases hD.own.2 with ⟨h1, _⟩ | ⟨g, cap, cur, h1, hb, hg, _⟩
              · injection h1 with h1; subst h1; cases hp
              · injection h1 with h1; subst h1; cases hp; have := (Array.getElem?_eq_some_iff.1 hg).1; rw [← hob.out]; show g ≠ _; omega⟩, by rw [← hW.out, ← hob.out]; exact heap_alloc_new _ _, by rw [← hob.out]; exact ⟨hord.1, hord.2, hD.lt⟩⟩
          clear hL hT hD hx
          go_upto_block 2 with (fail)
          rw [hW.out, hob.out]
          obtain ⟨T', hT'⟩ : ∃ T', Hid (applyOp xk xn xa xb xc Lxs T = T') := ⟨_, Lib.hid rfl⟩
          obtain ⟨E, hE⟩ : ∃ E, Hid (holdE T xa xb xc Lxs = E) := ⟨_, Lib.hid rfl⟩
          go_cut [54] (fun s54 wx => St w1 wx bb gg bw ob N T' T' ⟨xk, xn, xa, xb, xc, ⟨LA, Ln, Lc, Lxs⟩⟩)
          case first =>
            by_cases k0 : xk = 0
            · have e0 : (xk == 0) = true := by simpa using k0
              have HF : Hid (holdS T xa xb xc xn Lxs = T') := Lib.hid (by rw [← hT'.out]; simp [applyOp, k0])
              clear k0
              go_wp2_with fail
              have hS0 : St w1 W.drew bb gg bw ob N T T ⟨xk, xn, xa, xb, xc, ⟨LA, Ln, Lc, Lxs⟩⟩ := hSt.out.below ((Below.refl _ _).drew)
              refine wp_region_two (fun dp dq W => St w1 W bb gg bw ob N (if dp then T' else T) (if dq then T' else T) ⟨xk, xn, xa, xb, xc, ⟨LA, Ln, Lc, Lxs⟩⟩) (fun _ _ => True) (fun k u v => (k = 7 → (fun _ _ => True) u v) ∧ (k = 15 → (fun _ _ => True) u v) ∧ (¬ k = 7 → ¬ k = 15 → (fun _ _ => True) u v)) (fun a i => match i with
                  | 0 => (fun v _ => v = a.tmps.getD 5 undef)
                  | 1 => (fun v _ => v = .pointer (some ⟨ob, 2, none⟩))
                  | 2 => (fun v _ => v = .agg #[.int .i64 xa, .int .i64 xb, .int .i64 xc])
                  | 3 => (fun v _ => v = .pointer (some ⟨ob, 1, none⟩))
                  | 4 => (fun v _ => v = .int .i64 xn)
                  | 5 => (fun v _ => v = .pointer (some ⟨ob, 5, none⟩))
                  | 6 => (fun v _ => v = .slice LA Ln Lc)
                  | 7 => (fun v _ => v = .int .i64 E)
                  | 8 => (fun v _ => v = a.tmps.getD 7 undef)
                  | 9 => (fun v _ => v = .pointer (some ⟨ob, 2, none⟩))
                  | 10 => (fun v _ => v = .agg #[.int .i64 xa, .int .i64 xb, .int .i64 xc])
                  | 11 => (fun v _ => v = .pointer (some ⟨ob, 1, none⟩))
                  | 12 => (fun v _ => v = .int .i64 xn)
                  | 13 => (fun v _ => v = .pointer (some ⟨ob, 5, none⟩))
                  | 14 => (fun v _ => v = .slice LA Ln Lc)
                  | 15 => (fun v _ => v = .int .i64 E)
                  | 16 => (fun v _ => v = .bool false)
                  | _ => (fun _ _ => True)) #[0, 0, 2, 0, 8, 0, 32, 127, 0, 0, 512, 0, 2048, 0, 8192, 32767, 65535] #[0, 0, 2, 0, 8, 0, 32, 85, 0, 0, 512, 0, 2048, 0, 8192, 21760, 32896] 131071 7 15 (by kernel_rfl) 17 rfl (by decide) (by decide) (fun m hm => by subst hm; kernel_rfl) (by kernel_rfl) (fun w => trivial) (fun u v w h1 h2 => trivial) ?_ ?_ (hS0) ?_ ?_
              · intro k u v hk hr
                by_cases hs1 : k = 7
                · have h := hr.1 hs1; exact trivial
                · by_cases hs2 : k = 15
                  · have h := hr.2.1 hs2; exact trivial
                  · have h := hr.2.2 hs1 hs2; exact trivial
              · intro i hi
                rcases (by omega : i = 0 ∨ i = 1 ∨ i = 2 ∨ i = 3 ∨ i = 4 ∨ i = 5 ∨ i = 6 ∨ i = 7 ∨ i = 8 ∨ i = 9 ∨ i = 10 ∨ i = 11 ∨ i = 12 ∨ i = 13 ∨ i = 14 ∨ i = 15 ∨ i = 16) with rfl | rfl | rfl | rfl | rfl | rfl | rfl | rfl | rfl | rfl | rfl | rfl | rfl | rfl | rfl | rfl | rfl
                · intro k hk y hy hyt v w w' h hr
                  by_cases hs7 : k = 7
                  · have hr0 := hr.1 hs7
                    subst hs7
                    exact (fun (h : _) (hr : _) => by exact h) h hr0
                  by_cases hs15 : k = 15
                  · have hr0 := hr.2.1 hs15
                    subst hs15
                    exact (fun (h : _) (hr : _) => by exact h) h hr0
                  have hr := hr.2.2 hs7 hs15
                  exact h
                · intro k hk y hy hyt v w w' h hr
                  by_cases hs7 : k = 7
                  · have hr0 := hr.1 hs7
                    subst hs7
                    exact (fun (h : _) (hr : _) => by exact h) h hr0
                  by_cases hs15 : k = 15
                  · have hr0 := hr.2.1 hs15
                    subst hs15
                    exact (fun (h : _) (hr : _) => by exact h) h hr0
                  have hr := hr.2.2 hs7 hs15
                  exact h
                · intro k hk y hy hyt v w w' h hr
                  by_cases hs7 : k = 7
                  · have hr0 := hr.1 hs7
                    subst hs7
                    exact (fun (h : _) (hr : _) => by exact h) h hr0
                  by_cases hs15 : k = 15
                  · have hr0 := hr.2.1 hs15
                    subst hs15
                    exact (fun (h : _) (hr : _) => by exact h) h hr0
                  have hr := hr.2.2 hs7 hs15
                  exact h
                · intro k hk y hy hyt v w w' h hr
                  by_cases hs7 : k = 7
                  · have hr0 := hr.1 hs7
                    subst hs7
                    exact (fun (h : _) (hr : _) => by exact h) h hr0
                  by_cases hs15 : k = 15
                  · have hr0 := hr.2.1 hs15
                    subst hs15
                    exact (fun (h : _) (hr : _) => by exact h) h hr0
                  have hr := hr.2.2 hs7 hs15
                  exact h
                · intro k hk y hy hyt v w w' h hr
                  by_cases hs7 : k = 7
                  · have hr0 := hr.1 hs7
                    subst hs7
                    exact (fun (h : _) (hr : _) => by exact h) h hr0
                  by_cases hs15 : k = 15
                  · have hr0 := hr.2.1 hs15
                    subst hs15
                    exact (fun (h : _) (hr : _) => by exact h) h hr0
                  have hr := hr.2.2 hs7 hs15
                  exact h
                · intro k hk y hy hyt v w w' h hr
                  by_cases hs7 : k = 7
                  · have hr0 := hr.1 hs7
                    subst hs7
                    exact (fun (h : _) (hr : _) => by exact h) h hr0
                  by_cases hs15 : k = 15
                  · have hr0 := hr.2.1 hs15
                    subst hs15
                    exact (fun (h : _) (hr : _) => by exact h) h hr0
                  have hr := hr.2.2 hs7 hs15
                  exact h
                · intro k hk y hy hyt v w w' h hr
                  by_cases hs7 : k = 7
                  · have hr0 := hr.1 hs7
                    subst hs7
                    exact (fun (h : _) (hr : _) => by exact h) h hr0
                  by_cases hs15 : k = 15
                  · have hr0 := hr.2.1 hs15
                    subst hs15
                    exact (fun (h : _) (hr : _) => by exact h) h hr0
                  have hr := hr.2.2 hs7 hs15
                  exact h
                · intro k hk y hy hyt v w w' h hr
                  by_cases hs7 : k = 7
                  · have hr0 := hr.1 hs7
                    subst hs7
                    exact absurd (hy.trans hyt) (ne_true_of_eq_false (by kernel_rfl))
                  by_cases hs15 : k = 15
                  · have hr0 := hr.2.1 hs15
                    subst hs15
                    exact (fun (h : _) (hr : _) => by exact h) h hr0
                  have hr := hr.2.2 hs7 hs15
                  exact h
                · intro k hk y hy hyt v w w' h hr
                  by_cases hs7 : k = 7
                  · have hr0 := hr.1 hs7
                    subst hs7
                    exact (fun (h : _) (hr : _) => by exact h) h hr0
                  by_cases hs15 : k = 15
                  · have hr0 := hr.2.1 hs15
                    subst hs15
                    exact (fun (h : _) (hr : _) => by exact h) h hr0
                  have hr := hr.2.2 hs7 hs15
                  exact h
                · intro k hk y hy hyt v w w' h hr
                  by_cases hs7 : k = 7
                  · have hr0 := hr.1 hs7
                    subst hs7
                    exact (fun (h : _) (hr : _) => by exact h) h hr0
                  by_cases hs15 : k = 15
                  · have hr0 := hr.2.1 hs15
                    subst hs15
                    exact (fun (h : _) (hr : _) => by exact h) h hr0
                  have hr := hr.2.2 hs7 hs15
                  exact h
                · intro k hk y hy hyt v w w' h hr
                  by_cases hs7 : k = 7
                  · have hr0 := hr.1 hs7
                    subst hs7
                    exact (fun (h : _) (hr : _) => by exact h) h hr0
                  by_cases hs15 : k = 15
                  · have hr0 := hr.2.1 hs15
                    subst hs15
                    exact (fun (h : _) (hr : _) => by exact h) h hr0
                  have hr := hr.2.2 hs7 hs15
                  exact h
                · intro k hk y hy hyt v w w' h hr
                  by_cases hs7 : k = 7
                  · have hr0 := hr.1 hs7
                    subst hs7
                    exact (fun (h : _) (hr : _) => by exact h) h hr0
                  by_cases hs15 : k = 15
                  · have hr0 := hr.2.1 hs15
                    subst hs15
                    exact (fun (h : _) (hr : _) => by exact h) h hr0
                  have hr := hr.2.2 hs7 hs15
                  exact h
                · intro k hk y hy hyt v w w' h hr
                  by_cases hs7 : k = 7
                  · have hr0 := hr.1 hs7
                    subst hs7
                    exact (fun (h : _) (hr : _) => by exact h) h hr0
                  by_cases hs15 : k = 15
                  · have hr0 := hr.2.1 hs15
                    subst hs15
                    exact (fun (h : _) (hr : _) => by exact h) h hr0
                  have hr := hr.2.2 hs7 hs15
                  exact h
                · intro k hk y hy hyt v w w' h hr
                  by_cases hs7 : k = 7
                  · have hr0 := hr.1 hs7
                    subst hs7
                    exact (fun (h : _) (hr : _) => by exact h) h hr0
                  by_cases hs15 : k = 15
                  · have hr0 := hr.2.1 hs15
                    subst hs15
                    exact (fun (h : _) (hr : _) => by exact h) h hr0
                  have hr := hr.2.2 hs7 hs15
                  exact h
                · intro k hk y hy hyt v w w' h hr
                  by_cases hs7 : k = 7
                  · have hr0 := hr.1 hs7
                    subst hs7
                    exact (fun (h : _) (hr : _) => by exact h) h hr0
                  by_cases hs15 : k = 15
                  · have hr0 := hr.2.1 hs15
                    subst hs15
                    exact (fun (h : _) (hr : _) => by exact h) h hr0
                  have hr := hr.2.2 hs7 hs15
                  exact h
                · intro k hk y hy hyt v w w' h hr
                  by_cases hs7 : k = 7
                  · have hr0 := hr.1 hs7
                    subst hs7
                    exact absurd (hy.trans hyt) (ne_true_of_eq_false (by kernel_rfl))
                  by_cases hs15 : k = 15
                  · have hr0 := hr.2.1 hs15
                    subst hs15
                    exact absurd (hy.trans hyt) (ne_true_of_eq_false (by kernel_rfl))
                  have hr := hr.2.2 hs7 hs15
                  exact h
                · intro k hk y hy hyt v w w' h hr
                  by_cases hs7 : k = 7
                  · have hr0 := hr.1 hs7
                    subst hs7
                    exact absurd (hy.trans hyt) (ne_true_of_eq_false (by kernel_rfl))
                  by_cases hs15 : k = 15
                  · have hr0 := hr.2.1 hs15
                    subst hs15
                    exact absurd (hy.trans hyt) (ne_true_of_eq_false (by kernel_rfl))
                  have hr := hr.2.2 hs7 hs15
                  exact h
              · intro i hi
                rcases (by omega : i = 0 ∨ i = 1 ∨ i = 2 ∨ i = 3 ∨ i = 4 ∨ i = 5 ∨ i = 6 ∨ i = 7 ∨ i = 8 ∨ i = 9 ∨ i = 10 ∨ i = 11 ∨ i = 12 ∨ i = 13 ∨ i = 14 ∨ i = 15 ∨ i = 16) with rfl | rfl | rfl | rfl | rfl | rfl | rfl | rfl | rfl | rfl | rfl | rfl | rfl | rfl | rfl | rfl | rfl
                · -- 0: Op.move (Operand.tmp 5)
                  intro l hl vs W dp dq e1 e2 hS hR hp
                  rw [show (dp || ((0 : Nat) == 7)) = dp from Bool.or_false dp]
                  rw [show (dq || ((0 : Nat) == 15)) = dq from Bool.or_false dq]
                  obtain rfl : l = [] := hl.symm.trans (by kernel_rfl)
                  clear hp hl
                  refine opgoal (_) (some 57) rfl rfl fun K hK => ?_
                  refine Runs.mk ?_
                  simp only [putAll]
                  go_simp
                  refine hK _ _ ?_ hS ⟨fun h => absurd h (by decide), fun h => absurd h (by decide), fun _ _ => ((fun w => trivial) W)⟩ _ rfl rfl
                  first | rfl | go_simp | simp
                · -- 1: Op.fieldAddr 65 (Operand.tmp 9) 2
                  intro l hl vs W dp dq e1 e2 hS hR hp
                  rw [show (dp || ((1 : Nat) == 7)) = dp from Bool.or_false dp]
                  rw [show (dq || ((1 : Nat) == 15)) = dq from Bool.or_false dq]
                  obtain rfl : l = [] := hl.symm.trans (by kernel_rfl)
                  clear hp hl
                  refine opgoal (_) (some 58) rfl rfl fun K hK => ?_
                  refine Runs.mk ?_
                  simp only [putAll]
                  go_simp
                  refine hK _ _ ?_ hS ⟨fun h => absurd h (by decide), fun h => absurd h (by decide), fun _ _ => ((fun w => trivial) W)⟩ _ rfl rfl
                  first | rfl | go_simp | simp
                · -- 2: Op.load 55 (Operand.tmp 58)
                  intro l hl vs W dp dq e1 e2 hS hR hp
                  rw [show (dp || ((2 : Nat) == 7)) = dp from Bool.or_false dp]
                  rw [show (dq || ((2 : Nat) == 15)) = dq from Bool.or_false dq]
                  obtain rfl : l = [(1, 58)] := hl.symm.trans (by kernel_rfl)
                  have p1 : vs 1 = _ := hp 1 (by decide) (by decide)
                  clear hp hl
                  refine opgoal (_) (some 59) rfl rfl fun K hK => ?_
                  obtain ⟨f0, f1, f2, f3, f4, f5⟩ := hS.cells
                  dsimp only at f0 f1 f2 f3 f4 f5
                  refine Runs.mk ?_
                  simp only [putAll]
                  go_simp
                  refine hK _ _ ?_ hS ⟨fun h => absurd h (by decide), fun h => absurd h (by decide), fun _ _ => ((fun w => trivial) W)⟩ _ rfl rfl
                  first | rfl | go_simp | simp
                · -- 3: Op.fieldAddr 65 (Operand.tmp 9) 1
                  intro l hl vs W dp dq e1 e2 hS hR hp
                  rw [show (dp || ((3 : Nat) == 7)) = dp from Bool.or_false dp]
                  rw [show (dq || ((3 : Nat) == 15)) = dq from Bool.or_false dq]
                  obtain rfl : l = [] := hl.symm.trans (by kernel_rfl)
                  clear hp hl
                  refine opgoal (_) (some 60) rfl rfl fun K hK => ?_
                  refine Runs.mk ?_
                  simp only [putAll]
                  go_simp
                  refine hK _ _ ?_ hS ⟨fun h => absurd h (by decide), fun h => absurd h (by decide), fun _ _ => ((fun w => trivial) W)⟩ _ rfl rfl
                  first | rfl | go_simp | simp
                · -- 4: Op.load 3 (Operand.tmp 60)
                  intro l hl vs W dp dq e1 e2 hS hR hp
                  rw [show (dp || ((4 : Nat) == 7)) = dp from Bool.or_false dp]
                  rw [show (dq || ((4 : Nat) == 15)) = dq from Bool.or_false dq]
                  obtain rfl : l = [(3, 60)] := hl.symm.trans (by kernel_rfl)
                  have p3 : vs 3 = _ := hp 3 (by decide) (by decide)
                  clear hp hl
                  refine opgoal (_) (some 61) rfl rfl fun K hK => ?_
                  obtain ⟨f0, f1, f2, f3, f4, f5⟩ := hS.cells
                  dsimp only at f0 f1 f2 f3 f4 f5
                  refine Runs.mk ?_
                  simp only [putAll]
                  go_simp
                  refine hK _ _ ?_ hS ⟨fun h => absurd h (by decide), fun h => absurd h (by decide), fun _ _ => ((fun w => trivial) W)⟩ _ rfl rfl
                  first | rfl | go_simp | simp
                · -- 5: Op.fieldAddr 65 (Operand.tmp 9) 3
                  intro l hl vs W dp dq e1 e2 hS hR hp
                  rw [show (dp || ((5 : Nat) == 7)) = dp from Bool.or_false dp]
                  rw [show (dq || ((5 : Nat) == 15)) = dq from Bool.or_false dq]
                  obtain rfl : l = [] := hl.symm.trans (by kernel_rfl)
                  clear hp hl
                  refine opgoal (_) (some 62) rfl rfl fun K hK => ?_
                  refine Runs.mk ?_
                  simp only [putAll]
                  go_simp
                  refine hK _ _ ?_ hS ⟨fun h => absurd h (by decide), fun h => absurd h (by decide), fun _ _ => ((fun w => trivial) W)⟩ _ rfl rfl
                  first | rfl | go_simp | simp
                · -- 6: Op.load 35 (Operand.tmp 62)
                  intro l hl vs W dp dq e1 e2 hS hR hp
                  rw [show (dp || ((6 : Nat) == 7)) = dp from Bool.or_false dp]
                  rw [show (dq || ((6 : Nat) == 15)) = dq from Bool.or_false dq]
                  obtain rfl : l = [(5, 62)] := hl.symm.trans (by kernel_rfl)
                  have p5 : vs 5 = _ := hp 5 (by decide) (by decide)
                  clear hp hl
                  refine opgoal (_) (some 63) rfl rfl fun K hK => ?_
                  obtain ⟨f0, f1, f2, f3, f4, f5⟩ := hS.cells
                  dsimp only at f0 f1 f2 f3 f4 f5
                  refine Runs.mk ?_
                  simp only [putAll]
                  go_simp
                  refine hK _ _ ?_ hS ⟨fun h => absurd h (by decide), fun h => absurd h (by decide), fun _ _ => ((fun w => trivial) W)⟩ _ rfl rfl
                  first | rfl | go_simp | simp
                · -- 7: Op.call { callee := Callee.value (Operand.func 29), args := #[Operand.tmp 57, Operand.tmp 59, Operand.tmp 61, Operand.tmp 63], argTypes := #[49, 55, 3
                  intro l hl vs W dp dq e1 e2 hS hR hp
                  obtain rfl := e1 rfl
                  rw [show (dq || ((7 : Nat) == 15)) = dq from Bool.or_false dq]
                  obtain rfl : l = [(0, 57), (1, 58), (2, 59), (3, 60), (4, 61), (5, 62), (6, 63)] := hl.symm.trans (by kernel_rfl)
                  have p0 : vs 0 = _ := hp 0 (by decide) (by decide)
                  have p2 : vs 2 = _ := hp 2 (by decide) (by decide)
                  have p4 : vs 4 = _ := hp 4 (by decide) (by decide)
                  have p6 : vs 6 = _ := hp 6 (by decide) (by decide)
                  clear hp hl
                  refine opgoal (_) (some 64) rfl rfl fun K hK => ?_
                  refine Runs.mk ?_
                  simp only [putAll]
                  go_simp
                  refine (st_hold_l hS HI.out E T' hE.out HF.out).mono ?_
                  rintro e w' ⟨rfl, hs'⟩
                  go_simp
                  exact hK _ _ rfl hs' ⟨fun _ => trivial, fun h => absurd h (by decide), fun h => absurd rfl h⟩ _ rfl rfl
                · -- 8: Op.move (Operand.tmp 7)
                  intro l hl vs W dp dq e1 e2 hS hR hp
                  rw [show (dp || ((8 : Nat) == 7)) = dp from Bool.or_false dp]
                  rw [show (dq || ((8 : Nat) == 15)) = dq from Bool.or_false dq]
                  obtain rfl : l = [] := hl.symm.trans (by kernel_rfl)
                  clear hp hl
                  refine opgoal (_) (some 65) rfl rfl fun K hK => ?_
                  refine Runs.mk ?_
                  simp only [putAll]
                  go_simp
                  refine hK _ _ ?_ hS ⟨fun h => absurd h (by decide), fun h => absurd h (by decide), fun _ _ => ((fun w => trivial) W)⟩ _ rfl rfl
                  first | rfl | go_simp | simp
                · -- 9: Op.fieldAddr 65 (Operand.tmp 9) 2
                  intro l hl vs W dp dq e1 e2 hS hR hp
                  rw [show (dp || ((9 : Nat) == 7)) = dp from Bool.or_false dp]
                  rw [show (dq || ((9 : Nat) == 15)) = dq from Bool.or_false dq]
                  obtain rfl : l = [] := hl.symm.trans (by kernel_rfl)
                  clear hp hl
                  refine opgoal (_) (some 66) rfl rfl fun K hK => ?_
                  refine Runs.mk ?_
                  simp only [putAll]
                  go_simp
                  refine hK _ _ ?_ hS ⟨fun h => absurd h (by decide), fun h => absurd h (by decide), fun _ _ => ((fun w => trivial) W)⟩ _ rfl rfl
                  first | rfl | go_simp | simp
                · -- 10: Op.load 55 (Operand.tmp 66)
                  intro l hl vs W dp dq e1 e2 hS hR hp
                  rw [show (dp || ((10 : Nat) == 7)) = dp from Bool.or_false dp]
                  rw [show (dq || ((10 : Nat) == 15)) = dq from Bool.or_false dq]
                  obtain rfl : l = [(9, 66)] := hl.symm.trans (by kernel_rfl)
                  have p9 : vs 9 = _ := hp 9 (by decide) (by decide)
                  clear hp hl
                  refine opgoal (_) (some 67) rfl rfl fun K hK => ?_
                  obtain ⟨f0, f1, f2, f3, f4, f5⟩ := hS.cells
                  dsimp only at f0 f1 f2 f3 f4 f5
                  refine Runs.mk ?_
                  simp only [putAll]
                  go_simp
                  refine hK _ _ ?_ hS ⟨fun h => absurd h (by decide), fun h => absurd h (by decide), fun _ _ => ((fun w => trivial) W)⟩ _ rfl rfl
                  first | rfl | go_simp | simp
                · -- 11: Op.fieldAddr 65 (Operand.tmp 9) 1
                  intro l hl vs W dp dq e1 e2 hS hR hp
                  rw [show (dp || ((11 : Nat) == 7)) = dp from Bool.or_false dp]
                  rw [show (dq || ((11 : Nat) == 15)) = dq from Bool.or_false dq]
                  obtain rfl : l = [] := hl.symm.trans (by kernel_rfl)
                  clear hp hl
                  refine opgoal (_) (some 68) rfl rfl fun K hK => ?_
                  refine Runs.mk ?_
                  simp only [putAll]
                  go_simp
                  refine hK _ _ ?_ hS ⟨fun h => absurd h (by decide), fun h => absurd h (by decide), fun _ _ => ((fun w => trivial) W)⟩ _ rfl rfl
                  first | rfl | go_simp | simp
                · -- 12: Op.load 3 (Operand.tmp 68)
                  intro l hl vs W dp dq e1 e2 hS hR hp
                  rw [show (dp || ((12 : Nat) == 7)) = dp from Bool.or_false dp]
                  rw [show (dq || ((12 : Nat) == 15)) = dq from Bool.or_false dq]
                  obtain rfl : l = [(11, 68)] := hl.symm.trans (by kernel_rfl)
                  have p11 : vs 11 = _ := hp 11 (by decide) (by decide)
                  clear hp hl
                  refine opgoal (_) (some 69) rfl rfl fun K hK => ?_
                  obtain ⟨f0, f1, f2, f3, f4, f5⟩ := hS.cells
                  dsimp only at f0 f1 f2 f3 f4 f5
                  refine Runs.mk ?_
                  simp only [putAll]
                  go_simp
                  refine hK _ _ ?_ hS ⟨fun h => absurd h (by decide), fun h => absurd h (by decide), fun _ _ => ((fun w => trivial) W)⟩ _ rfl rfl
                  first | rfl | go_simp | simp
                · -- 13: Op.fieldAddr 65 (Operand.tmp 9) 3
                  intro l hl vs W dp dq e1 e2 hS hR hp
                  rw [show (dp || ((13 : Nat) == 7)) = dp from Bool.or_false dp]
                  rw [show (dq || ((13 : Nat) == 15)) = dq from Bool.or_false dq]
                  obtain rfl : l = [] := hl.symm.trans (by kernel_rfl)
                  clear hp hl
                  refine opgoal (_) (some 70) rfl rfl fun K hK => ?_
                  refine Runs.mk ?_
                  simp only [putAll]
                  go_simp
                  refine hK _ _ ?_ hS ⟨fun h => absurd h (by decide), fun h => absurd h (by decide), fun _ _ => ((fun w => trivial) W)⟩ _ rfl rfl
                  first | rfl | go_simp | simp
                · -- 14: Op.load 35 (Operand.tmp 70)
                  intro l hl vs W dp dq e1 e2 hS hR hp
                  rw [show (dp || ((14 : Nat) == 7)) = dp from Bool.or_false dp]
                  rw [show (dq || ((14 : Nat) == 15)) = dq from Bool.or_false dq]
                  obtain rfl : l = [(13, 70)] := hl.symm.trans (by kernel_rfl)
                  have p13 : vs 13 = _ := hp 13 (by decide) (by decide)
                  clear hp hl
                  refine opgoal (_) (some 71) rfl rfl fun K hK => ?_
                  obtain ⟨f0, f1, f2, f3, f4, f5⟩ := hS.cells
                  dsimp only at f0 f1 f2 f3 f4 f5
                  refine Runs.mk ?_
                  simp only [putAll]
                  go_simp
                  refine hK _ _ ?_ hS ⟨fun h => absurd h (by decide), fun h => absurd h (by decide), fun _ _ => ((fun w => trivial) W)⟩ _ rfl rfl
                  first | rfl | go_simp | simp
                · -- 15: Op.call { callee := Callee.value (Operand.func 34), args := #[Operand.tmp 65, Operand.tmp 67, Operand.tmp 69, Operand.tmp 71], argTypes := #[70, 55, 3
                  intro l hl vs W dp dq e1 e2 hS hR hp
                  rw [show (dp || ((15 : Nat) == 7)) = dp from Bool.or_false dp]
                  obtain rfl := e2 rfl
                  obtain rfl : l = [(0, 57), (1, 58), (2, 59), (3, 60), (4, 61), (5, 62), (6, 63), (7, 64), (8, 65), (9, 66), (10, 67), (11, 68), (12, 69), (13, 70), (14, 71)] := hl.symm.trans (by kernel_rfl)
                  have p8 : vs 8 = _ := hp 8 (by decide) (by decide)
                  have p10 : vs 10 = _ := hp 10 (by decide) (by decide)
                  have p12 : vs 12 = _ := hp 12 (by decide) (by decide)
                  have p14 : vs 14 = _ := hp 14 (by decide) (by decide)
                  clear hp hl
                  refine opgoal (_) (some 72) rfl rfl fun K hK => ?_
                  refine Runs.mk ?_
                  simp only [putAll]
                  go_simp
                  refine (st_hold_d hS HI.out E T' hE.out HF.out).mono ?_
                  rintro e w' ⟨rfl, hs'⟩
                  go_simp
                  exact hK _ _ rfl hs' ⟨fun h => absurd h (by decide), fun _ => trivial, fun _ h => absurd rfl h⟩ _ rfl rfl
                · -- 16: Op.binOp BinOp.neq 3 (Operand.tmp 64) (Operand.tmp 72) 3
                  intro l hl vs W dp dq e1 e2 hS hR hp
                  rw [show (dp || ((16 : Nat) == 7)) = dp from Bool.or_false dp]
                  rw [show (dq || ((16 : Nat) == 15)) = dq from Bool.or_false dq]
                  obtain rfl : l = [(0, 57), (1, 58), (2, 59), (3, 60), (4, 61), (5, 62), (6, 63), (7, 64), (8, 65), (9, 66), (10, 67), (11, 68), (12, 69), (13, 70), (14, 71), (15, 72)] := hl.symm.trans (by kernel_rfl)
                  have p7 : vs 7 = _ := hp 7 (by decide) (by decide)
                  have p15 : vs 15 = _ := hp 15 (by decide) (by decide)
                  clear hp hl
                  refine opgoal (_) (some 73) rfl rfl fun K hK => ?_
                  refine Runs.mk ?_
                  simp only [putAll]
                  go_simp
                  refine hK _ _ ?_ hS ⟨fun h => absurd h (by decide), fun h => absurd h (by decide), fun _ _ => ((fun w => trivial) W)⟩ _ rfl rfl
                  first | rfl | go_simp | simp
              · intro l hl vs W hS hR hp
                obtain rfl : l = [(0, 57), (1, 58), (2, 59), (3, 60), (4, 61), (5, 62), (6, 63), (7, 64), (8, 65), (9, 66), (10, 67), (11, 68), (12, 69), (13, 70), (14, 71), (15, 72), (16, 73)] := hl.symm.trans (by kernel_rfl)
                have p0 : vs 0 = _ := hp 0 (by decide) (by decide)
                have p1 : vs 1 = _ := hp 1 (by decide) (by decide)
                have p2 : vs 2 = _ := hp 2 (by decide) (by decide)
                have p3 : vs 3 = _ := hp 3 (by decide) (by decide)
                have p4 : vs 4 = _ := hp 4 (by decide) (by decide)
                have p5 : vs 5 = _ := hp 5 (by decide) (by decide)
                have p6 : vs 6 = _ := hp 6 (by decide) (by decide)
                have p7 : vs 7 = _ := hp 7 (by decide) (by decide)
                have p8 : vs 8 = _ := hp 8 (by decide) (by decide)
                have p9 : vs 9 = _ := hp 9 (by decide) (by decide)
                have p10 : vs 10 = _ := hp 10 (by decide) (by decide)
                have p11 : vs 11 = _ := hp 11 (by decide) (by decide)
                have p12 : vs 12 = _ := hp 12 (by decide) (by decide)
                have p13 : vs 13 = _ := hp 13 (by decide) (by decide)
                have p14 : vs 14 = _ := hp 14 (by decide) (by decide)
                have p15 : vs 15 = _ := hp 15 (by decide) (by decide)
                have p16 : vs 16 = _ := hp 16 (by decide) (by decide)
                clear hp hl
                simp only [putAll_mk, setAll, List.setIfInBounds_toArray, List.set_cons_succ, List.set_cons_zero, p0, p1, p2, p3, p4, p5, p6, p7, p8, p9, p10, p11, p12, p13, p14, p15, p16]
                have HST := Lib.hid hS
                clear hS hR
                go_wp2_with fail
                go_meet
                exact HST.out
            · have e0 : (xk == 0) = false := by simpa using k0
              by_cases k1 : xk = 1
              · have e1 : (xk == 1) = true := by simpa using k1
                obtain ⟨l, HL⟩ : ∃ l, Hid (dropL (fun s => tidB s.a s.b s.c xa xb xc) T T.length = l) := ⟨_, Lib.hid rfl⟩
                have HF : Hid (dropS (fun s => tidB s.a s.b s.c xa xb xc) T = T') := Lib.hid (by rw [← hT'.out]; simp [applyOp, k1])
                clear k0 k1
                go_wp2_with fail
                have hS0 : St w1 W.drew bb gg bw ob N T T ⟨xk, xn, xa, xb, xc, ⟨LA, Ln, Lc, Lxs⟩⟩ := hSt.out.below ((Below.refl _ _).drew)
                refine wp_region_two (fun dp dq W => St w1 W bb gg bw ob N (if dp then T' else T) (if dq then T' else T) ⟨xk, xn, xa, xb, xc, ⟨LA, Ln, Lc, Lxs⟩⟩) (fun u v => Keep [gg, bw] u v) (fun k u v => (k = 3 → (fun u v => Keep [gg] u v) u v) ∧ (k = 7 → (fun u v => Keep [bw] u v) u v) ∧ (¬ k = 3 → ¬ k = 7 → (fun u v => Below u.heap.size u v) u v)) (fun a i => match i with
                    | 0 => (fun v _ => v = a.tmps.getD 5 undef)
                    | 1 => (fun v _ => v = .pointer (some ⟨ob, 2, none⟩))
                    | 2 => (fun v _ => v = .agg #[.int .i64 xa, .int .i64 xb, .int .i64 xc])
                    | 3 => (fun v W => Out gg bw l v W)
                    | 4 => (fun v _ => v = a.tmps.getD 7 undef)
                    | 5 => (fun v _ => v = .pointer (some ⟨ob, 2, none⟩))
                    | 6 => (fun v _ => v = .agg #[.int .i64 xa, .int .i64 xb, .int .i64 xc])
                    | 7 => (fun v W => Out gg bw l v W)
                    | 8 => (fun v _ => v = .bool true)
                    | 9 => (fun v _ => v = .bool false)
                    | _ => (fun _ _ => True)) #[0, 0, 2, 7, 0, 0, 32, 127, 255, 511] #[0, 0, 2, 5, 0, 0, 32, 80, 136, 256] 887 3 7 (by kernel_rfl) 10 rfl (by decide) (by decide) (fun m hm => by subst hm; kernel_rfl) (by kernel_rfl) (fun w => Keep.refl _ w) (fun u v w h1 h2 => h1.trans h2) ?_ ?_ (hS0) ?_ ?_
                · intro k u v hk hr
                  by_cases hs1 : k = 3
                  · have h := hr.1 hs1; exact h.mono (by simp)
                  · by_cases hs2 : k = 7
                    · have h := hr.2.1 hs2; exact h.mono (by simp)
                    · have h := hr.2.2 hs1 hs2; exact Keep.of_below h
                · intro i hi
                  rcases (by omega : i = 0 ∨ i = 1 ∨ i = 2 ∨ i = 3 ∨ i = 4 ∨ i = 5 ∨ i = 6 ∨ i = 7 ∨ i = 8 ∨ i = 9) with rfl | rfl | rfl | rfl | rfl | rfl | rfl | rfl | rfl | rfl
                  · intro k hk y hy hyt v w w' h hr
                    by_cases hs3 : k = 3
                    · have hr0 := hr.1 hs3
                      subst hs3
                      exact (fun (h : _) (hr : _) => by exact h) h hr0
                    by_cases hs7 : k = 7
                    · have hr0 := hr.2.1 hs7
                      subst hs7
                      exact (fun (h : _) (hr : _) => by exact h) h hr0
                    have hr := hr.2.2 hs3 hs7
                    exact h
                  · intro k hk y hy hyt v w w' h hr
                    by_cases hs3 : k = 3
                    · have hr0 := hr.1 hs3
                      subst hs3
                      exact (fun (h : _) (hr : _) => by exact h) h hr0
                    by_cases hs7 : k = 7
                    · have hr0 := hr.2.1 hs7
                      subst hs7
                      exact (fun (h : _) (hr : _) => by exact h) h hr0
                    have hr := hr.2.2 hs3 hs7
                    exact h
                  · intro k hk y hy hyt v w w' h hr
                    by_cases hs3 : k = 3
                    · have hr0 := hr.1 hs3
                      subst hs3
                      exact (fun (h : _) (hr : _) => by exact h) h hr0
                    by_cases hs7 : k = 7
                    · have hr0 := hr.2.1 hs7
                      subst hs7
                      exact (fun (h : _) (hr : _) => by exact h) h hr0
                    have hr := hr.2.2 hs3 hs7
                    exact h
                  · intro k hk y hy hyt v w w' h hr
                    by_cases hs3 : k = 3
                    · have hr0 := hr.1 hs3
                      subst hs3
                      exact absurd (hy.trans hyt) (ne_true_of_eq_false (by kernel_rfl))
                    by_cases hs7 : k = 7
                    · have hr0 := hr.2.1 hs7
                      subst hs7
                      exact (fun (h : _) (hr : _) => by exact h.keep hr (by simp)) h hr0
                    have hr := hr.2.2 hs3 hs7
                    exact h.keep (S := []) (.of_below hr) (by simp)
                  · intro k hk y hy hyt v w w' h hr
                    by_cases hs3 : k = 3
                    · have hr0 := hr.1 hs3
                      subst hs3
                      exact (fun (h : _) (hr : _) => by exact h) h hr0
                    by_cases hs7 : k = 7
                    · have hr0 := hr.2.1 hs7
                      subst hs7
                      exact (fun (h : _) (hr : _) => by exact h) h hr0
                    have hr := hr.2.2 hs3 hs7
                    exact h
                  · intro k hk y hy hyt v w w' h hr
                    by_cases hs3 : k = 3
                    · have hr0 := hr.1 hs3
                      subst hs3
                      exact (fun (h : _) (hr : _) => by exact h) h hr0
                    by_cases hs7 : k = 7
                    · have hr0 := hr.2.1 hs7
                      subst hs7
                      exact (fun (h : _) (hr : _) => by exact h) h hr0
                    have hr := hr.2.2 hs3 hs7
                    exact h
                  · intro k hk y hy hyt v w w' h hr
                    by_cases hs3 : k = 3
                    · have hr0 := hr.1 hs3
                      subst hs3
                      exact (fun (h : _) (hr : _) => by exact h) h hr0
                    by_cases hs7 : k = 7
                    · have hr0 := hr.2.1 hs7
                      subst hs7
                      exact (fun (h : _) (hr : _) => by exact h) h hr0
                    have hr := hr.2.2 hs3 hs7
                    exact h
                  · intro k hk y hy hyt v w w' h hr
                    by_cases hs3 : k = 3
                    · have hr0 := hr.1 hs3
                      subst hs3
                      exact absurd (hy.trans hyt) (ne_true_of_eq_false (by kernel_rfl))
                    by_cases hs7 : k = 7
                    · have hr0 := hr.2.1 hs7
                      subst hs7
                      exact absurd (hy.trans hyt) (ne_true_of_eq_false (by kernel_rfl))
                    have hr := hr.2.2 hs3 hs7
                    exact h.keep (S := []) (.of_below hr) (by simp)
                  · intro k hk y hy hyt v w w' h hr
                    by_cases hs3 : k = 3
                    · have hr0 := hr.1 hs3
                      subst hs3
                      exact absurd (hy.trans hyt) (ne_true_of_eq_false (by kernel_rfl))
                    by_cases hs7 : k = 7
                    · have hr0 := hr.2.1 hs7
                      subst hs7
                      exact absurd (hy.trans hyt) (ne_true_of_eq_false (by kernel_rfl))
                    have hr := hr.2.2 hs3 hs7
                    exact h
                  · intro k hk y hy hyt v w w' h hr
                    by_cases hs3 : k = 3
                    · have hr0 := hr.1 hs3
                      subst hs3
                      exact absurd (hy.trans hyt) (ne_true_of_eq_false (by kernel_rfl))
                    by_cases hs7 : k = 7
                    · have hr0 := hr.2.1 hs7
                      subst hs7
                      exact absurd (hy.trans hyt) (ne_true_of_eq_false (by kernel_rfl))
                    have hr := hr.2.2 hs3 hs7
                    exact h
                · intro i hi
                  rcases (by omega : i = 0 ∨ i = 1 ∨ i = 2 ∨ i = 3 ∨ i = 4 ∨ i = 5 ∨ i = 6 ∨ i = 7 ∨ i = 8 ∨ i = 9) with rfl | rfl | rfl | rfl | rfl | rfl | rfl | rfl | rfl | rfl
                  · -- 0: Op.move (Operand.tmp 5)
                    intro l hl vs W dp dq e1 e2 hS hR hp
                    rw [show (dp || ((0 : Nat) == 3)) = dp from Bool.or_false dp]
                    rw [show (dq || ((0 : Nat) == 7)) = dq from Bool.or_false dq]
                    obtain rfl : l = [] := hl.symm.trans (by kernel_rfl)
                    clear hp hl
                    refine opgoal (_) (some 76) rfl rfl fun K hK => ?_
                    refine Runs.mk ?_
                    simp only [putAll]
                    go_simp
                    refine hK _ _ ?_ hS ⟨fun h => absurd h (by decide), fun h => absurd h (by decide), fun _ _ => ((fun w => Below.refl _ w) W)⟩ _ rfl rfl
                    first | rfl | go_simp | simp
                  · -- 1: Op.fieldAddr 65 (Operand.tmp 9) 2
                    intro l hl vs W dp dq e1 e2 hS hR hp
                    rw [show (dp || ((1 : Nat) == 3)) = dp from Bool.or_false dp]
                    rw [show (dq || ((1 : Nat) == 7)) = dq from Bool.or_false dq]
                    obtain rfl : l = [] := hl.symm.trans (by kernel_rfl)
                    clear hp hl
                    refine opgoal (_) (some 77) rfl rfl fun K hK => ?_
                    refine Runs.mk ?_
                    simp only [putAll]
                    go_simp
                    refine hK _ _ ?_ hS ⟨fun h => absurd h (by decide), fun h => absurd h (by decide), fun _ _ => ((fun w => Below.refl _ w) W)⟩ _ rfl rfl
                    first | rfl | go_simp | simp
                  · -- 2: Op.load 55 (Operand.tmp 77)
                    intro l hl vs W dp dq e1 e2 hS hR hp
                    rw [show (dp || ((2 : Nat) == 3)) = dp from Bool.or_false dp]
                    rw [show (dq || ((2 : Nat) == 7)) = dq from Bool.or_false dq]
                    obtain rfl : l = [(1, 77)] := hl.symm.trans (by kernel_rfl)
                    have p1 : vs 1 = _ := hp 1 (by decide) (by decide)
                    clear hp hl
                    refine opgoal (_) (some 78) rfl rfl fun K hK => ?_
                    obtain ⟨f0, f1, f2, f3, f4, f5⟩ := hS.cells
                    dsimp only at f0 f1 f2 f3 f4 f5
                    refine Runs.mk ?_
                    simp only [putAll]
                    go_simp
                    refine hK _ _ ?_ hS ⟨fun h => absurd h (by decide), fun h => absurd h (by decide), fun _ _ => ((fun w => Below.refl _ w) W)⟩ _ rfl rfl
                    first | rfl | go_simp | simp
                  · -- 3: Op.call { callee := Callee.value (Operand.func 33), args := #[Operand.tmp 76, Operand.tmp 78], argTypes := #[49, 55] }
                    intro l hl vs W dp dq e1 e2 hS hR hp
                    obtain rfl := e1 rfl
                    rw [show (dq || ((3 : Nat) == 7)) = dq from Bool.or_false dq]
                    obtain rfl : l = [(0, 76), (1, 77), (2, 78)] := hl.symm.trans (by kernel_rfl)
                    have p0 : vs 0 = _ := hp 0 (by decide) (by decide)
                    have p2 : vs 2 = _ := hp 2 (by decide) (by decide)
                    clear hp hl
                    refine opgoal (_) (some 79) rfl rfl fun K hK => ?_
                    refine Runs.mk ?_
                    simp only [putAll]
                    go_simp
                    refine (st_free_l hS l T' HL.out HF.out).mono ?_
                    rintro e w' ⟨v, rfl, ho, hs', hk⟩
                    go_simp
                    exact hK _ _ ho hs' ⟨fun _ => hk, fun h => absurd h (by decide), fun h => absurd rfl h⟩ _ rfl rfl
                  · -- 4: Op.move (Operand.tmp 7)
                    intro l hl vs W dp dq e1 e2 hS hR hp
                    rw [show (dp || ((4 : Nat) == 3)) = dp from Bool.or_false dp]
                    rw [show (dq || ((4 : Nat) == 7)) = dq from Bool.or_false dq]
                    obtain rfl : l = [] := hl.symm.trans (by kernel_rfl)
                    clear hp hl
                    refine opgoal (_) (some 80) rfl rfl fun K hK => ?_
                    refine Runs.mk ?_
                    simp only [putAll]
                    go_simp
                    refine hK _ _ ?_ hS ⟨fun h => absurd h (by decide), fun h => absurd h (by decide), fun _ _ => ((fun w => Below.refl _ w) W)⟩ _ rfl rfl
                    first | rfl | go_simp | simp
                  · -- 5: Op.fieldAddr 65 (Operand.tmp 9) 2
                    intro l hl vs W dp dq e1 e2 hS hR hp
                    rw [show (dp || ((5 : Nat) == 3)) = dp from Bool.or_false dp]
                    rw [show (dq || ((5 : Nat) == 7)) = dq from Bool.or_false dq]
                    obtain rfl : l = [] := hl.symm.trans (by kernel_rfl)
                    clear hp hl
                    refine opgoal (_) (some 81) rfl rfl fun K hK => ?_
                    refine Runs.mk ?_
                    simp only [putAll]
                    go_simp
                    refine hK _ _ ?_ hS ⟨fun h => absurd h (by decide), fun h => absurd h (by decide), fun _ _ => ((fun w => Below.refl _ w) W)⟩ _ rfl rfl
                    first | rfl | go_simp | simp
                  · -- 6: Op.load 55 (Operand.tmp 81)
                    intro l hl vs W dp dq e1 e2 hS hR hp
                    rw [show (dp || ((6 : Nat) == 3)) = dp from Bool.or_false dp]
                    rw [show (dq || ((6 : Nat) == 7)) = dq from Bool.or_false dq]
                    obtain rfl : l = [(5, 81)] := hl.symm.trans (by kernel_rfl)
                    have p5 : vs 5 = _ := hp 5 (by decide) (by decide)
                    clear hp hl
                    refine opgoal (_) (some 82) rfl rfl fun K hK => ?_
                    obtain ⟨f0, f1, f2, f3, f4, f5⟩ := hS.cells
                    dsimp only at f0 f1 f2 f3 f4 f5
                    refine Runs.mk ?_
                    simp only [putAll]
                    go_simp
                    refine hK _ _ ?_ hS ⟨fun h => absurd h (by decide), fun h => absurd h (by decide), fun _ _ => ((fun w => Below.refl _ w) W)⟩ _ rfl rfl
                    first | rfl | go_simp | simp
                  · -- 7: Op.call { callee := Callee.value (Operand.func 36), args := #[Operand.tmp 80, Operand.const (Value.bool false), Operand.tmp 82, Operand.const (Value.i
                    intro l hl vs W dp dq e1 e2 hS hR hp
                    rw [show (dp || ((7 : Nat) == 3)) = dp from Bool.or_false dp]
                    obtain rfl := e2 rfl
                    obtain rfl : l = [(0, 76), (1, 77), (2, 78), (3, 79), (4, 80), (5, 81), (6, 82)] := hl.symm.trans (by kernel_rfl)
                    have p4 : vs 4 = _ := hp 4 (by decide) (by decide)
                    have p6 : vs 6 = _ := hp 6 (by decide) (by decide)
                    clear hp hl
                    refine opgoal (_) (some 83) rfl rfl fun K hK => ?_
                    replace hS : St w1 W bb gg bw ob N (if dp then T' else T) T ⟨xk, xn, xa, xb, xc, ⟨LA, Ln, Lc, Lxs⟩⟩ := hS
                    obtain ⟨Ad, cd, hd, hA⟩ := hS.doc
                    refine Runs.mk ?_
                    simp only [putAll]
                    go_simp
                    refine (doc_drop_who W bw N Ad cd _ xa xb xc 0 hd (fun d => tidB d.a d.b d.c xa xb xc) (fun _ => rfl)).mono ?_
                    rintro e w' hp
                    obtain ⟨v, rfl, ho, hs', hk⟩ := st_drop hS (fun s => tidB s.a s.b s.c xa xb xc) _ (fun _ _ => rfl) _ hp
                    rw [HL.out] at ho
                    rw [HF.out] at hs'
                    go_simp
                    exact hK _ _ ho hs' ⟨fun h => absurd h (by decide), fun _ => hk, fun _ h => absurd rfl h⟩ _ rfl rfl
                  · -- 8: Op.call { callee := Callee.value (Operand.func 35), args := #[Operand.tmp 79, Operand.tmp 83], argTypes := #[35, 35] }
                    intro l hl vs W dp dq e1 e2 hS hR hp
                    rw [show (dp || ((8 : Nat) == 3)) = dp from Bool.or_false dp]
                    rw [show (dq || ((8 : Nat) == 7)) = dq from Bool.or_false dq]
                    obtain rfl : l = [(0, 76), (1, 77), (2, 78), (3, 79), (4, 80), (5, 81), (6, 82), (7, 83)] := hl.symm.trans (by kernel_rfl)
                    have p3 : (fun v W => Out gg bw l v W) (vs 3) W := hp 3 (by decide) (by decide)
                    dsimp only at p3
                    have p7 : (fun v W => Out gg bw l v W) (vs 7) W := hp 7 (by decide) (by decide)
                    dsimp only at p7
                    clear hp hl
                    obtain ⟨A1, c1, q1, r1, _⟩ := p3
                    obtain ⟨A2, c2, q2, r2, _⟩ := p7
                    refine opgoal (_) (some 84) rfl rfl fun K hK => ?_
                    refine Runs.mk ?_
                    simp only [putAll]
                    go_simp
                    refine (same_any A1 A2 l.length c1 l.length c2 (toI l) (toI l) W r1 r2 true (by simp)).mono ?_
                    rintro e w' ⟨rfl, hb⟩
                    go_simp
                    exact hK _ _ rfl (hS.below hb) ⟨fun h => absurd h (by decide), fun h => absurd h (by decide), fun _ _ => hb⟩ _ rfl rfl
                  · -- 9: Op.unOp UnOp.not 4 (Operand.tmp 84)
                    intro l hl vs W dp dq e1 e2 hS hR hp
                    rw [show (dp || ((9 : Nat) == 3)) = dp from Bool.or_false dp]
                    rw [show (dq || ((9 : Nat) == 7)) = dq from Bool.or_false dq]
                    obtain rfl : l = [(0, 76), (1, 77), (2, 78), (3, 79), (4, 80), (5, 81), (6, 82), (7, 83), (8, 84)] := hl.symm.trans (by kernel_rfl)
                    have p8 : vs 8 = _ := hp 8 (by decide) (by decide)
                    clear hp hl
                    refine opgoal (_) (some 85) rfl rfl fun K hK => ?_
                    refine Runs.mk ?_
                    simp only [putAll]
                    go_simp
                    refine hK _ _ ?_ hS ⟨fun h => absurd h (by decide), fun h => absurd h (by decide), fun _ _ => ((fun w => Below.refl _ w) W)⟩ _ rfl rfl
                    first | rfl | go_simp | simp
                · intro l hl vs W hS hR hp
                  obtain rfl : l = [(0, 76), (1, 77), (2, 78), (3, 79), (4, 80), (5, 81), (6, 82), (7, 83), (8, 84), (9, 85)] := hl.symm.trans (by kernel_rfl)
                  have p0 : vs 0 = _ := hp 0 (by decide) (by decide)
                  have p1 : vs 1 = _ := hp 1 (by decide) (by decide)
                  have p2 : vs 2 = _ := hp 2 (by decide) (by decide)
                  have p4 : vs 4 = _ := hp 4 (by decide) (by decide)
                  have p5 : vs 5 = _ := hp 5 (by decide) (by decide)
                  have p6 : vs 6 = _ := hp 6 (by decide) (by decide)
                  have p8 : vs 8 = _ := hp 8 (by decide) (by decide)
                  have p9 : vs 9 = _ := hp 9 (by decide) (by decide)
                  clear hp hl
                  simp only [putAll_mk, setAll, List.setIfInBounds_toArray, List.set_cons_succ, List.set_cons_zero, p0, p1, p2, p4, p5, p6, p8, p9]
                  have HST := Lib.hid hS
                  clear hS hR
                  go_wp2_with fail
                  go_meet
                  exact HST.out
              · have e1 : (xk == 1) = false := by simpa using k1
                by_cases k2 : xk = 2
                · have e2 : (xk == 2) = true := by simpa using k2
                  obtain ⟨l, HL⟩ : ∃ l, Hid (dropL (fun s => decide (s.u ≤ xn)) T T.length = l) := ⟨_, Lib.hid rfl⟩
                  have HF : Hid (dropS (fun s => decide (s.u ≤ xn)) T = T') := Lib.hid (by rw [← hT'.out]; simp [applyOp, k2])
                  clear k0 k1 k2
                  go_wp2_with fail
                  have hS0 : St w1 W.drew bb gg bw ob N T T ⟨xk, xn, xa, xb, xc, ⟨LA, Ln, Lc, Lxs⟩⟩ := hSt.out.below ((Below.refl _ _).drew)
                  refine wp_region_two (fun dp dq W => St w1 W bb gg bw ob N (if dp then T' else T) (if dq then T' else T) ⟨xk, xn, xa, xb, xc, ⟨LA, Ln, Lc, Lxs⟩⟩) (fun u v => Keep [gg, bw] u v) (fun k u v => (k = 3 → (fun u v => Keep [gg] u v) u v) ∧ (k = 9 → (fun u v => Keep [bw] u v) u v) ∧ (¬ k = 3 → ¬ k = 9 → (fun u v => Below u.heap.size u v) u v)) (fun a i => match i with
                      | 0 => (fun v _ => v = a.tmps.getD 5 undef)
                      | 1 => (fun v _ => v = .pointer (some ⟨ob, 1, none⟩))
                      | 2 => (fun v _ => v = .int .i64 xn)
                      | 3 => (fun v W => Out gg bw l v W)
                      | 4 => (fun v _ => v = a.tmps.getD 7 undef)
                      | 5 => (fun v _ => v = .pointer (some ⟨ob, 2, none⟩))
                      | 6 => (fun v _ => v = .agg #[.int .i64 xa, .int .i64 xb, .int .i64 xc])
                      | 7 => (fun v _ => v = .pointer (some ⟨ob, 1, none⟩))
                      | 8 => (fun v _ => v = .int .i64 xn)
                      | 9 => (fun v W => Out gg bw l v W)
                      | 10 => (fun v _ => v = .bool true)
                      | 11 => (fun v _ => v = .bool false)
                      | _ => (fun _ _ => True)) #[0, 0, 2, 7, 0, 0, 32, 0, 128, 511, 1023, 2047] #[0, 0, 2, 5, 0, 0, 32, 0, 128, 336, 520, 1024] 3575 3 9 (by kernel_rfl) 12 rfl (by decide) (by decide) (fun m hm => by subst hm; kernel_rfl) (by kernel_rfl) (fun w => Keep.refl _ w) (fun u v w h1 h2 => h1.trans h2) ?_ ?_ (hS0) ?_ ?_
                  · intro k u v hk hr
                    by_cases hs1 : k = 3
                    · have h := hr.1 hs1; exact h.mono (by simp)
                    · by_cases hs2 : k = 9
                      · have h := hr.2.1 hs2; exact h.mono (by simp)
                      · have h := hr.2.2 hs1 hs2; exact Keep.of_below h
                  · intro i hi
                    rcases (by omega : i = 0 ∨ i = 1 ∨ i = 2 ∨ i = 3 ∨ i = 4 ∨ i = 5 ∨ i = 6 ∨ i = 7 ∨ i = 8 ∨ i = 9 ∨ i = 10 ∨ i = 11) with rfl | rfl | rfl | rfl | rfl | rfl | rfl | rfl | rfl | rfl | rfl | rfl
                    · intro k hk y hy hyt v w w' h hr
                      by_cases hs3 : k = 3
                      · have hr0 := hr.1 hs3
                        subst hs3
                        exact (fun (h : _) (hr : _) => by exact h) h hr0
                      by_cases hs9 : k = 9
                      · have hr0 := hr.2.1 hs9
                        subst hs9
                        exact (fun (h : _) (hr : _) => by exact h) h hr0
                      have hr := hr.2.2 hs3 hs9
                      exact h
                    · intro k hk y hy hyt v w w' h hr
                      by_cases hs3 : k = 3
                      · have hr0 := hr.1 hs3
                        subst hs3
                        exact (fun (h : _) (hr : _) => by exact h) h hr0
                      by_cases hs9 : k = 9
                      · have hr0 := hr.2.1 hs9
                        subst hs9
                        exact (fun (h : _) (hr : _) => by exact h) h hr0
                      have hr := hr.2.2 hs3 hs9
                      exact h
                    · intro k hk y hy hyt v w w' h hr
                      by_cases hs3 : k = 3
                      · have hr0 := hr.1 hs3
                        subst hs3
                        exact (fun (h : _) (hr : _) => by exact h) h hr0
                      by_cases hs9 : k = 9
                      · have hr0 := hr.2.1 hs9
                        subst hs9
                        exact (fun (h : _) (hr : _) => by exact h) h hr0
                      have hr := hr.2.2 hs3 hs9
                      exact h
                    · intro k hk y hy hyt v w w' h hr
                      by_cases hs3 : k = 3
                      · have hr0 := hr.1 hs3
                        subst hs3
                        exact absurd (hy.trans hyt) (ne_true_of_eq_false (by kernel_rfl))
                      by_cases hs9 : k = 9
                      · have hr0 := hr.2.1 hs9
                        subst hs9
                        exact (fun (h : _) (hr : _) => by exact h.keep hr (by simp)) h hr0
                      have hr := hr.2.2 hs3 hs9
                      exact h.keep (S := []) (.of_below hr) (by simp)
                    · intro k hk y hy hyt v w w' h hr
                      by_cases hs3 : k = 3
                      · have hr0 := hr.1 hs3
                        subst hs3
                        exact (fun (h : _) (hr : _) => by exact h) h hr0
                      by_cases hs9 : k = 9
                      · have hr0 := hr.2.1 hs9
                        subst hs9
                        exact (fun (h : _) (hr : _) => by exact h) h hr0
                      have hr := hr.2.2 hs3 hs9
                      exact h
                    · intro k hk y hy hyt v w w' h hr
                      by_cases hs3 : k = 3
                      · have hr0 := hr.1 hs3
                        subst hs3
                        exact (fun (h : _) (hr : _) => by exact h) h hr0
                      by_cases hs9 : k = 9
                      · have hr0 := hr.2.1 hs9
                        subst hs9
                        exact (fun (h : _) (hr : _) => by exact h) h hr0
                      have hr := hr.2.2 hs3 hs9
                      exact h
                    · intro k hk y hy hyt v w w' h hr
                      by_cases hs3 : k = 3
                      · have hr0 := hr.1 hs3
                        subst hs3
                        exact (fun (h : _) (hr : _) => by exact h) h hr0
                      by_cases hs9 : k = 9
                      · have hr0 := hr.2.1 hs9
                        subst hs9
                        exact (fun (h : _) (hr : _) => by exact h) h hr0
                      have hr := hr.2.2 hs3 hs9
                      exact h
                    · intro k hk y hy hyt v w w' h hr
                      by_cases hs3 : k = 3
                      · have hr0 := hr.1 hs3
                        subst hs3
                        exact (fun (h : _) (hr : _) => by exact h) h hr0
                      by_cases hs9 : k = 9
                      · have hr0 := hr.2.1 hs9
                        subst hs9
                        exact (fun (h : _) (hr : _) => by exact h) h hr0
                      have hr := hr.2.2 hs3 hs9
                      exact h
                    · intro k hk y hy hyt v w w' h hr
                      by_cases hs3 : k = 3
                      · have hr0 := hr.1 hs3
                        subst hs3
                        exact (fun (h : _) (hr : _) => by exact h) h hr0
                      by_cases hs9 : k = 9
                      · have hr0 := hr.2.1 hs9
                        subst hs9
                        exact (fun (h : _) (hr : _) => by exact h) h hr0
                      have hr := hr.2.2 hs3 hs9
                      exact h
                    · intro k hk y hy hyt v w w' h hr
                      by_cases hs3 : k = 3
                      · have hr0 := hr.1 hs3
                        subst hs3
                        exact absurd (hy.trans hyt) (ne_true_of_eq_false (by kernel_rfl))
                      by_cases hs9 : k = 9
                      · have hr0 := hr.2.1 hs9
                        subst hs9
                        exact absurd (hy.trans hyt) (ne_true_of_eq_false (by kernel_rfl))
                      have hr := hr.2.2 hs3 hs9
                      exact h.keep (S := []) (.of_below hr) (by simp)
                    · intro k hk y hy hyt v w w' h hr
                      by_cases hs3 : k = 3
                      · have hr0 := hr.1 hs3
                        subst hs3
                        exact absurd (hy.trans hyt) (ne_true_of_eq_false (by kernel_rfl))
                      by_cases hs9 : k = 9
                      · have hr0 := hr.2.1 hs9
                        subst hs9
                        exact absurd (hy.trans hyt) (ne_true_of_eq_false (by kernel_rfl))
                      have hr := hr.2.2 hs3 hs9
                      exact h
                    · intro k hk y hy hyt v w w' h hr
                      by_cases hs3 : k = 3
                      · have hr0 := hr.1 hs3
                        subst hs3
                        exact absurd (hy.trans hyt) (ne_true_of_eq_false (by kernel_rfl))
                      by_cases hs9 : k = 9
                      · have hr0 := hr.2.1 hs9
                        subst hs9
                        exact absurd (hy.trans hyt) (ne_true_of_eq_false (by kernel_rfl))
                      have hr := hr.2.2 hs3 hs9
                      exact h
                  · intro i hi
                    rcases (by omega : i = 0 ∨ i = 1 ∨ i = 2 ∨ i = 3 ∨ i = 4 ∨ i = 5 ∨ i = 6 ∨ i = 7 ∨ i = 8 ∨ i = 9 ∨ i = 10 ∨ i = 11) with rfl | rfl | rfl | rfl | rfl | rfl | rfl | rfl | rfl | rfl | rfl | rfl
                    · -- 0: Op.move (Operand.tmp 5)
                      intro l hl vs W dp dq e1 e2 hS hR hp
                      rw [show (dp || ((0 : Nat) == 3)) = dp from Bool.or_false dp]
                      rw [show (dq || ((0 : Nat) == 9)) = dq from Bool.or_false dq]
                      obtain rfl : l = [] := hl.symm.trans (by kernel_rfl)
                      clear hp hl
                      refine opgoal (_) (some 88) rfl rfl fun K hK => ?_
                      refine Runs.mk ?_
                      simp only [putAll]
                      go_simp
                      refine hK _ _ ?_ hS ⟨fun h => absurd h (by decide), fun h => absurd h (by decide), fun _ _ => ((fun w => Below.refl _ w) W)⟩ _ rfl rfl
                      first | rfl | go_simp | simp
                    · -- 1: Op.fieldAddr 65 (Operand.tmp 9) 1
                      intro l hl vs W dp dq e1 e2 hS hR hp
                      rw [show (dp || ((1 : Nat) == 3)) = dp from Bool.or_false dp]
                      rw [show (dq || ((1 : Nat) == 9)) = dq from Bool.or_false dq]
                      obtain rfl : l = [] := hl.symm.trans (by kernel_rfl)
                      clear hp hl
                      refine opgoal (_) (some 89) rfl rfl fun K hK => ?_
                      refine Runs.mk ?_
                      simp only [putAll]
                      go_simp
                      refine hK _ _ ?_ hS ⟨fun h => absurd h (by decide), fun h => absurd h (by decide), fun _ _ => ((fun w => Below.refl _ w) W)⟩ _ rfl rfl
                      first | rfl | go_simp | simp
                    · -- 2: Op.load 3 (Operand.tmp 89)
                      intro l hl vs W dp dq e1 e2 hS hR hp
                      rw [show (dp || ((2 : Nat) == 3)) = dp from Bool.or_false dp]
                      rw [show (dq || ((2 : Nat) == 9)) = dq from Bool.or_false dq]
                      obtain rfl : l = [(1, 89)] := hl.symm.trans (by kernel_rfl)
                      have p1 : vs 1 = _ := hp 1 (by decide) (by decide)
                      clear hp hl
                      refine opgoal (_) (some 90) rfl rfl fun K hK => ?_
                      obtain ⟨f0, f1, f2, f3, f4, f5⟩ := hS.cells
                      dsimp only at f0 f1 f2 f3 f4 f5
                      refine Runs.mk ?_
                      simp only [putAll]
                      go_simp
                      refine hK _ _ ?_ hS ⟨fun h => absurd h (by decide), fun h => absurd h (by decide), fun _ _ => ((fun w => Below.refl _ w) W)⟩ _ rfl rfl
                      first | rfl | go_simp | simp
                    · -- 3: Op.call { callee := Callee.value (Operand.func 30), args := #[Operand.tmp 88, Operand.tmp 90], argTypes := #[49, 3] }
                      intro l hl vs W dp dq e1 e2 hS hR hp
                      obtain rfl := e1 rfl
                      rw [show (dq || ((3 : Nat) == 9)) = dq from Bool.or_false dq]
                      obtain rfl : l = [(0, 88), (1, 89), (2, 90)] := hl.symm.trans (by kernel_rfl)
                      have p0 : vs 0 = _ := hp 0 (by decide) (by decide)
                      have p2 : vs 2 = _ := hp 2 (by decide) (by decide)
                      clear hp hl
                      refine opgoal (_) (some 91) rfl rfl fun K hK => ?_
                      refine Runs.mk ?_
                      simp only [putAll]
                      go_simp
                      refine (st_exp_l hS l T' HL.out HF.out).mono ?_
                      rintro e w' ⟨v, rfl, ho, hs', hk⟩
                      go_simp
                      exact hK _ _ ho hs' ⟨fun _ => hk, fun h => absurd h (by decide), fun h => absurd rfl h⟩ _ rfl rfl
                    · -- 4: Op.move (Operand.tmp 7)
                      intro l hl vs W dp dq e1 e2 hS hR hp
                      rw [show (dp || ((4 : Nat) == 3)) = dp from Bool.or_false dp]
                      rw [show (dq || ((4 : Nat) == 9)) = dq from Bool.or_false dq]
                      obtain rfl : l = [] := hl.symm.trans (by kernel_rfl)
                      clear hp hl
                      refine opgoal (_) (some 92) rfl rfl fun K hK => ?_
                      refine Runs.mk ?_
                      simp only [putAll]
                      go_simp
                      refine hK _ _ ?_ hS ⟨fun h => absurd h (by decide), fun h => absurd h (by decide), fun _ _ => ((fun w => Below.refl _ w) W)⟩ _ rfl rfl
                      first | rfl | go_simp | simp
                    · -- 5: Op.fieldAddr 65 (Operand.tmp 9) 2
                      intro l hl vs W dp dq e1 e2 hS hR hp
                      rw [show (dp || ((5 : Nat) == 3)) = dp from Bool.or_false dp]
                      rw [show (dq || ((5 : Nat) == 9)) = dq from Bool.or_false dq]
                      obtain rfl : l = [] := hl.symm.trans (by kernel_rfl)
                      clear hp hl
                      refine opgoal (_) (some 93) rfl rfl fun K hK => ?_
                      refine Runs.mk ?_
                      simp only [putAll]
                      go_simp
                      refine hK _ _ ?_ hS ⟨fun h => absurd h (by decide), fun h => absurd h (by decide), fun _ _ => ((fun w => Below.refl _ w) W)⟩ _ rfl rfl
                      first | rfl | go_simp | simp
                    · -- 6: Op.load 55 (Operand.tmp 93)
                      intro l hl vs W dp dq e1 e2 hS hR hp
                      rw [show (dp || ((6 : Nat) == 3)) = dp from Bool.or_false dp]
                      rw [show (dq || ((6 : Nat) == 9)) = dq from Bool.or_false dq]
                      obtain rfl : l = [(5, 93)] := hl.symm.trans (by kernel_rfl)
                      have p5 : vs 5 = _ := hp 5 (by decide) (by decide)
                      clear hp hl
                      refine opgoal (_) (some 94) rfl rfl fun K hK => ?_
                      obtain ⟨f0, f1, f2, f3, f4, f5⟩ := hS.cells
                      dsimp only at f0 f1 f2 f3 f4 f5
                      refine Runs.mk ?_
                      simp only [putAll]
                      go_simp
                      refine hK _ _ ?_ hS ⟨fun h => absurd h (by decide), fun h => absurd h (by decide), fun _ _ => ((fun w => Below.refl _ w) W)⟩ _ rfl rfl
                      first | rfl | go_simp | simp
                    · -- 7: Op.fieldAddr 65 (Operand.tmp 9) 1
                      intro l hl vs W dp dq e1 e2 hS hR hp
                      rw [show (dp || ((7 : Nat) == 3)) = dp from Bool.or_false dp]
                      rw [show (dq || ((7 : Nat) == 9)) = dq from Bool.or_false dq]
                      obtain rfl : l = [] := hl.symm.trans (by kernel_rfl)
                      clear hp hl
                      refine opgoal (_) (some 95) rfl rfl fun K hK => ?_
                      refine Runs.mk ?_
                      simp only [putAll]
                      go_simp
                      refine hK _ _ ?_ hS ⟨fun h => absurd h (by decide), fun h => absurd h (by decide), fun _ _ => ((fun w => Below.refl _ w) W)⟩ _ rfl rfl
                      first | rfl | go_simp | simp
                    · -- 8: Op.load 3 (Operand.tmp 95)
                      intro l hl vs W dp dq e1 e2 hS hR hp
                      rw [show (dp || ((8 : Nat) == 3)) = dp from Bool.or_false dp]
                      rw [show (dq || ((8 : Nat) == 9)) = dq from Bool.or_false dq]
                      obtain rfl : l = [(7, 95)] := hl.symm.trans (by kernel_rfl)
                      have p7 : vs 7 = _ := hp 7 (by decide) (by decide)
                      clear hp hl
                      refine opgoal (_) (some 96) rfl rfl fun K hK => ?_
                      obtain ⟨f0, f1, f2, f3, f4, f5⟩ := hS.cells
                      dsimp only at f0 f1 f2 f3 f4 f5
                      refine Runs.mk ?_
                      simp only [putAll]
                      go_simp
                      refine hK _ _ ?_ hS ⟨fun h => absurd h (by decide), fun h => absurd h (by decide), fun _ _ => ((fun w => Below.refl _ w) W)⟩ _ rfl rfl
                      first | rfl | go_simp | simp
                    · -- 9: Op.call { callee := Callee.value (Operand.func 36), args := #[Operand.tmp 92, Operand.const (Value.bool true), Operand.tmp 94, Operand.tmp 96], argTyp
                      intro l hl vs W dp dq e1 e2 hS hR hp
                      rw [show (dp || ((9 : Nat) == 3)) = dp from Bool.or_false dp]
                      obtain rfl := e2 rfl
                      obtain rfl : l = [(0, 88), (1, 89), (2, 90), (3, 91), (4, 92), (5, 93), (6, 94), (7, 95), (8, 96)] := hl.symm.trans (by kernel_rfl)
                      have p4 : vs 4 = _ := hp 4 (by decide) (by decide)
                      have p6 : vs 6 = _ := hp 6 (by decide) (by decide)
                      have p8 : vs 8 = _ := hp 8 (by decide) (by decide)
                      clear hp hl
                      refine opgoal (_) (some 97) rfl rfl fun K hK => ?_
                      replace hS : St w1 W bb gg bw ob N (if dp then T' else T) T ⟨xk, xn, xa, xb, xc, ⟨LA, Ln, Lc, Lxs⟩⟩ := hS
                      obtain ⟨Ad, cd, hd, hA⟩ := hS.doc
                      refine Runs.mk ?_
                      simp only [putAll]
                      go_simp
                      refine (doc_drop_till W bw N Ad cd _ xa xb xc xn hd (fun d => decide (d.u ≤ xn)) (fun _ => rfl)).mono ?_
                      rintro e w' hp
                      obtain ⟨v, rfl, ho, hs', hk⟩ := st_drop hS (fun s => decide (s.u ≤ xn)) _ (fun _ _ => rfl) _ hp
                      rw [HL.out] at ho
                      rw [HF.out] at hs'
                      go_simp
                      exact hK _ _ ho hs' ⟨fun h => absurd h (by decide), fun _ => hk, fun _ h => absurd rfl h⟩ _ rfl rfl
                    · -- 10: Op.call { callee := Callee.value (Operand.func 35), args := #[Operand.tmp 91, Operand.tmp 97], argTypes := #[35, 35] }
                      intro l hl vs W dp dq e1 e2 hS hR hp
                      rw [show (dp || ((10 : Nat) == 3)) = dp from Bool.or_false dp]
                      rw [show (dq || ((10 : Nat) == 9)) = dq from Bool.or_false dq]
                      obtain rfl : l = [(0, 88), (1, 89), (2, 90), (3, 91), (4, 92), (5, 93), (6, 94), (7, 95), (8, 96), (9, 97)] := hl.symm.trans (by kernel_rfl)
                      have p3 : (fun v W => Out gg bw l v W) (vs 3) W := hp 3 (by decide) (by decide)
                      dsimp only at p3
                      have p9 : (fun v W => Out gg bw l v W) (vs 9) W := hp 9 (by decide) (by decide)
                      dsimp only at p9
                      clear hp hl
                      obtain ⟨A1, c1, q1, r1, _⟩ := p3
                      obtain ⟨A2, c2, q2, r2, _⟩ := p9
                      refine opgoal (_) (some 98) rfl rfl fun K hK => ?_
                      refine Runs.mk ?_
                      simp only [putAll]
                      go_simp
                      refine (same_any A1 A2 l.length c1 l.length c2 (toI l) (toI l) W r1 r2 true (by simp)).mono ?_
                      rintro e w' ⟨rfl, hb⟩
                      go_simp
                      exact hK _ _ rfl (hS.below hb) ⟨fun h => absurd h (by decide), fun h => absurd h (by decide), fun _ _ => hb⟩ _ rfl rfl
                    · -- 11: Op.unOp UnOp.not 4 (Operand.tmp 98)
                      intro l hl vs W dp dq e1 e2 hS hR hp
                      rw [show (dp || ((11 : Nat) == 3)) = dp from Bool.or_false dp]
                      rw [show (dq || ((11 : Nat) == 9)) = dq from Bool.or_false dq]
                      obtain rfl : l = [(0, 88), (1, 89), (2, 90), (3, 91), (4, 92), (5, 93), (6, 94), (7, 95), (8, 96), (9, 97), (10, 98)] := hl.symm.trans (by kernel_rfl)
                      have p10 : vs 10 = _ := hp 10 (by decide) (by decide)
                      clear hp hl
                      refine opgoal (_) (some 99) rfl rfl fun K hK => ?_
                      refine Runs.mk ?_
                      simp only [putAll]
                      go_simp
                      refine hK _ _ ?_ hS ⟨fun h => absurd h (by decide), fun h => absurd h (by decide), fun _ _ => ((fun w => Below.refl _ w) W)⟩ _ rfl rfl
                      first | rfl | go_simp | simp
                  · intro l hl vs W hS hR hp
                    obtain rfl : l = [(0, 88), (1, 89), (2, 90), (3, 91), (4, 92), (5, 93), (6, 94), (7, 95), (8, 96), (9, 97), (10, 98), (11, 99)] := hl.symm.trans (by kernel_rfl)
                    have p0 : vs 0 = _ := hp 0 (by decide) (by decide)
                    have p1 : vs 1 = _ := hp 1 (by decide) (by decide)
                    have p2 : vs 2 = _ := hp 2 (by decide) (by decide)
                    have p4 : vs 4 = _ := hp 4 (by decide) (by decide)
                    have p5 : vs 5 = _ := hp 5 (by decide) (by decide)
                    have p6 : vs 6 = _ := hp 6 (by decide) (by decide)
                    have p7 : vs 7 = _ := hp 7 (by decide) (by decide)
                    have p8 : vs 8 = _ := hp 8 (by decide) (by decide)
                    have p10 : vs 10 = _ := hp 10 (by decide) (by decide)
                    have p11 : vs 11 = _ := hp 11 (by decide) (by decide)
                    clear hp hl
                    simp only [putAll_mk, setAll, List.setIfInBounds_toArray, List.set_cons_succ, List.set_cons_zero, p0, p1, p2, p4, p5, p6, p7, p8, p10, p11]
                    have HST := Lib.hid hS
                    clear hS hR
                    go_wp2_with fail
                    go_meet
                    exact HST.out
                · have e2 : (xk == 2) = false := by simpa using k2
                  have eT : Hid (T = T') := Lib.hid (by rw [← hT'.out]; simp [applyOp, k0, k1, k2])
                  clear k0 k1 k2
                  go_wp2_with fail
                  go_meet
                  rw [← eT.out]
                  exact hSt.out
          case rest =>
            clear HX hSt hbW
            have hcell := hcut.cells
            obtain ⟨f0, f1, f2, f3, f4, f5⟩ := hcell
            dsimp only at f0 f1 f2 f3 f4 f5
            have HC := Lib.hid hcut
            have HRD := Lib.hid HI.out.rd
            dsimp only at HRD
            have hLn : Ln ≤ 9223372036854775807 := HRD.out.2.1
            have hLx : Hid (Lxs.length = Ln) := Lib.hid (by simpa using HRD.out.len)
            clear hcut
            go_wp2_with fail
            clear f0 f1 f2 f3 f4 f5
            go_loopg [10, 103] Ln (fun gk q i wz => ∃ z : Nat, gk = Ln - z ∧ z ≤ Ln ∧ q = .bool ((Lxs.take z).all fun x => oneE N (toD T') xa xb xc x == 0) ∧ i = .int .i64 z ∧ St w1 wz bb gg bw ob N T' T' ⟨xk, xn, xa, xb, xc, ⟨LA, Ln, Lc, Lxs⟩⟩)
            case atStart => exact ⟨0, by omega, by omega, rfl, rfl, HC.out⟩
            case round =>
              obtain ⟨z, rfl, hz, rfl, rfl, hSz⟩ := hrel
              by_cases hzl : z < Ln
              · obtain ⟨ab2, ao2, hA2, hc2⟩ := (HRD.out.below hSz.lt.low).2.2 (by omega)
                subst hA2
                have hzx : z < Lxs.length := by have := hLx.out; omega
                obtain ⟨x, hx⟩ : ∃ x, Hid (x = Lxs[z]) := ⟨_, Lib.hid rfl⟩
                have c0 := hc2 z hzl
                rw [List.getElem?_map, List.getElem?_eq_getElem hzx, ← hx.out] at c0
                simp only [Option.map_some] at c0
                obtain ⟨r, hr⟩ : ∃ r, Hid (oneE N (toD T') xa xb xc x = r) := ⟨_, Lib.hid rfl⟩
                obtain ⟨m1, hm1⟩ : ∃ m, Hid (((Lxs.take (z + 1)).all fun x => oneE N (toD T') xa xb xc x == 0) = m) := ⟨_, Lib.hid rfl⟩
                obtain ⟨m0, hm0⟩ : ∃ m, Hid (((Lxs.take z).all fun x => oneE N (toD T') xa xb xc x == 0) = m) := ⟨_, Lib.hid rfl⟩
                have hmm : Hid (m1 = (m0 && (r == 0))) := Lib.hid (by
                  rw [← hm1.out, ← hm0.out, ← hr.out, List.take_succ_eq_append_getElem hzx, List.all_append, ← hx.out]
                  simp only [List.all_cons, List.all_nil, Bool.and_true])
                obtain ⟨f0, f1, f2, f3, f4, f5⟩ := hSz.cells
                dsimp only at f0 f1 f2 f3 f4 f5
                have HSz := Lib.hid hSz
                have HQ := Lib.hid (st_ask hSz 0 x r hr.out)
                rw [hm0.out]
                clear hSz hc2
                cases m0
                case false =>
                  have hf : Hid (m1 = false) := Lib.hid (by rw [hmm.out]; rfl)
                  go_wp2
                  go_roundg (Ln - (z + 1))
                  case measure => omega
                  case rel => exact ⟨z + 1, rfl, by omega, by rw [hm1.out, hf.out], by go_num, HSz.out⟩
                case true =>
                  have hf : Hid (m1 = (r == 0)) := Lib.hid (by rw [hmm.out]; rfl)
                  go_wp2_with fail
                  refine HQ.out.mono ?_
                  rintro e wq ⟨rfl, hSq⟩
                  go_wp2
                  go_roundg (Ln - (z + 1))
                  case measure => omega
                  case rel => exact ⟨z + 1, rfl, by omega, by rw [hm1.out, hf.out], by go_num, hSq⟩
              · obtain ⟨m, hm⟩ : ∃ m, Hid (((Lxs.take z).all fun x => oneE N (toD T') xa xb xc x == 0) = m) := ⟨_, Lib.hid rfl⟩
                rw [hm.out]
                have HM : Hid (mayV T' xa xb xc Lxs = m) := Lib.hid (by
                  have hN := hSz.lenT
                  rw [may_eq, hN, ← hm.out, List.take_of_length_le (by have := hLx.out; omega)])
                obtain ⟨Ad, cd, hD5, _⟩ := hSz.doc
                have hS5 := hSz.below ((Below.refl _ _).drew)
                have hD6 := hD5.below ((Below.refl _ _).drew)
                have hS0 : St w1 wr.drew bb gg bw ob N T' T' ⟨xk, xn, xa, xb, xc, ⟨LA, Ln, Lc, Lxs⟩⟩ ∧ Doc wr.drew bw N Ad cd (toD T') := ⟨hS5, hD6⟩
                obtain ⟨H, HH⟩ : ∃ H, Hid (heldN T' = H) := ⟨_, Lib.hid rfl⟩
                have HD : Hid ((toD T').length = H) := Lib.hid (by rw [← HH.out]; exact toDf_len T' 0)
                clear hSz hD5 hS5 hD6 hz HC
                go_wp2_with fail
                refine wp_region_one (fun W => St w1 W bb gg bw ob N T' T' ⟨xk, xn, xa, xb, xc, ⟨LA, Ln, Lc, Lxs⟩⟩ ∧ Doc W bw N Ad cd (toD T')) (fun u v => Below u.heap.size u v) (fun a i => match i with
                    | 0 => (fun v _ => v = a.tmps.getD 5 undef)
                    | 1 => (fun v _ => v = .pointer (some ⟨ob, 2, none⟩))
                    | 2 => (fun v _ => v = .agg #[.int .i64 xa, .int .i64 xb, .int .i64 xc])
                    | 3 => (fun v _ => v = .pointer (some ⟨ob, 5, none⟩))
                    | 4 => (fun v _ => v = .slice LA Ln Lc)
                    | 5 => (fun v _ => v = .bool m)
                    | 6 => (fun v _ => v = a.tmps.getD 10 undef)
                    | 7 => (fun v _ => v = .bool false)
                    | 8 => (fun v _ => v = .bool false)
                    | 9 => (fun v _ => v = a.tmps.getD 5 undef)
                    | 10 => (fun v _ => v = .int .i64 (H : Nat))
                    | 11 => (fun v _ => v = a.tmps.getD 7 undef)
                    | 12 => (fun v _ => v = .pointer (some ⟨bw, 0, none⟩))
                    | 13 => (fun v _ => v = .pointer (some ⟨bw, 1, none⟩))
                    | 14 => (fun v _ => v = .slice Ad H cd)
                    | 15 => (fun v _ => v = .int .i64 (H : Nat))
                    | 16 => (fun v _ => v = .bool false)
                    | 17 => (fun v _ => v = .bool false)
                    | _ => (fun _ _ => True)) #[0, 0, 2, 0, 8, 31, 0, 127, 255, 511, 1023, 511, 2559, 6655, 14847, 31231, 65535, 131071] #[0, 0, 2, 0, 8, 21, 0, 96, 128, 256, 768, 256, 2304, 4352, 8448, 16640, 34048, 65792] 262143 (by kernel_rfl) 18 rfl (fun m hm => by subst hm; kernel_rfl) (by kernel_rfl) (fun w => Below.refl _ w) (fun u v w h1 h2 => below2 h1 h2) ?_ (hS0) ?_ ?_
                · intro i hi
                  rcases (by omega : i = 0 ∨ i = 1 ∨ i = 2 ∨ i = 3 ∨ i = 4 ∨ i = 5 ∨ i = 6 ∨ i = 7 ∨ i = 8 ∨ i = 9 ∨ i = 10 ∨ i = 11 ∨ i = 12 ∨ i = 13 ∨ i = 14 ∨ i = 15 ∨ i = 16 ∨ i = 17) with rfl | rfl | rfl | rfl | rfl | rfl | rfl | rfl | rfl | rfl | rfl | rfl | rfl | rfl | rfl | rfl | rfl | rfl
                  · exact fun v w w' h hr => by exact h
                  · exact fun v w w' h hr => by exact h
                  · exact fun v w w' h hr => by exact h
                  · exact fun v w w' h hr => by exact h
                  · exact fun v w w' h hr => by exact h
                  · exact fun v w w' h hr => by exact h
                  · exact fun v w w' h hr => by exact h
                  · exact fun v w w' h hr => by exact h
                  · exact fun v w w' h hr => by exact h
                  · exact fun v w w' h hr => by exact h
                  · exact fun v w w' h hr => by exact h
                  · exact fun v w w' h hr => by exact h
                  · exact fun v w w' h hr => by exact h
                  · exact fun v w w' h hr => by exact h
                  · exact fun v w w' h hr => by exact h
                  · exact fun v w w' h hr => by exact h
                  · exact fun v w w' h hr => by exact h
                  · exact fun v w w' h hr => by exact h
                · intro i hi
                  rcases (by omega : i = 0 ∨ i = 1 ∨ i = 2 ∨ i = 3 ∨ i = 4 ∨ i = 5 ∨ i = 6 ∨ i = 7 ∨ i = 8 ∨ i = 9 ∨ i = 10 ∨ i = 11 ∨ i = 12 ∨ i = 13 ∨ i = 14 ∨ i = 15 ∨ i = 16 ∨ i = 17) with rfl | rfl | rfl | rfl | rfl | rfl | rfl | rfl | rfl | rfl | rfl | rfl | rfl | rfl | rfl | rfl | rfl | rfl
                  · -- 0: Op.move (Operand.tmp 5)
                    intro l hl vs W hS hR hp
                    obtain rfl : l = [] := hl.symm.trans (by kernel_rfl)
                    clear hp hl
                    refine opgoal (_) (some 117) rfl rfl fun K hK => ?_
                    refine Runs.mk ?_
                    simp only [putAll]
                    go_simp
                    refine hK _ _ ?_ hS ((fun w => Below.refl _ w) W) _ rfl rfl
                    first | rfl | go_simp | simp
                  · -- 1: Op.fieldAddr 65 (Operand.tmp 9) 2
                    intro l hl vs W hS hR hp
                    obtain rfl : l = [] := hl.symm.trans (by kernel_rfl)
                    clear hp hl
                    refine opgoal (_) (some 118) rfl rfl fun K hK => ?_
                    refine Runs.mk ?_
                    simp only [putAll]
                    go_simp
                    refine hK _ _ ?_ hS ((fun w => Below.refl _ w) W) _ rfl rfl
                    first | rfl | go_simp | simp
                  · -- 2: Op.load 55 (Operand.tmp 118)
                    intro l hl vs W hS hR hp
                    obtain rfl : l = [(1, 118)] := hl.symm.trans (by kernel_rfl)
                    have p1 : vs 1 = _ := hp 1 (by decide) (by decide)
                    clear hp hl
                    refine opgoal (_) (some 119) rfl rfl fun K hK => ?_
                    obtain ⟨f0, f1, f2, f3, f4, f5⟩ := hS.1.cells
                    dsimp only at f0 f1 f2 f3 f4 f5
                    refine Runs.mk ?_
                    simp only [putAll]
                    go_simp
                    refine hK _ _ ?_ hS ((fun w => Below.refl _ w) W) _ rfl rfl
                    first | rfl | go_simp | simp
                  · -- 3: Op.fieldAddr 65 (Operand.tmp 9) 3
                    intro l hl vs W hS hR hp
                    obtain rfl : l = [] := hl.symm.trans (by kernel_rfl)
                    clear hp hl
                    refine opgoal (_) (some 120) rfl rfl fun K hK => ?_
                    refine Runs.mk ?_
                    simp only [putAll]
                    go_simp
                    refine hK _ _ ?_ hS ((fun w => Below.refl _ w) W) _ rfl rfl
                    first | rfl | go_simp | simp
                  · -- 4: Op.load 35 (Operand.tmp 120)
                    intro l hl vs W hS hR hp
                    obtain rfl : l = [(3, 120)] := hl.symm.trans (by kernel_rfl)
                    have p3 : vs 3 = _ := hp 3 (by decide) (by decide)
                    clear hp hl
                    refine opgoal (_) (some 121) rfl rfl fun K hK => ?_
                    obtain ⟨f0, f1, f2, f3, f4, f5⟩ := hS.1.cells
                    dsimp only at f0 f1 f2 f3 f4 f5
                    refine Runs.mk ?_
                    simp only [putAll]
                    go_simp
                    refine hK _ _ ?_ hS ((fun w => Below.refl _ w) W) _ rfl rfl
                    first | rfl | go_simp | simp
                  · -- 5: Op.call { callee := Callee.value (Operand.func 38), args := #[Operand.tmp 117, Operand.tmp 119, Operand.tmp 121], argTypes := #[49, 55, 35] }
                    intro l hl vs W hS hR hp
                    obtain rfl : l = [(0, 117), (1, 118), (2, 119), (3, 120), (4, 121)] := hl.symm.trans (by kernel_rfl)
                    have p0 : vs 0 = _ := hp 0 (by decide) (by decide)
                    have p2 : vs 2 = _ := hp 2 (by decide) (by decide)
                    have p4 : vs 4 = _ := hp 4 (by decide) (by decide)
                    clear hp hl
                    refine opgoal (_) (some 122) rfl rfl fun K hK => ?_
                    refine Runs.mk ?_
                    simp only [putAll]
                    go_simp
                    refine (may_any bb gg T' xa xb xc LA Ln Lc Lxs W hS.1.lt.tab (HI.out.rd.below hS.1.lt.low) m HM.out).mono ?_
                    rintro e w' ⟨rfl, hb⟩
                    go_simp
                    exact hK _ _ rfl ⟨hS.1.below hb, hS.2.below hb⟩ hb _ rfl rfl
                  · -- 6: Op.move (Operand.tmp 10)
                    intro l hl vs W hS hR hp
                    obtain rfl : l = [] := hl.symm.trans (by kernel_rfl)
                    clear hp hl
                    refine opgoal (_) (some 123) rfl rfl fun K hK => ?_
                    refine Runs.mk ?_
                    simp only [putAll]
                    go_simp
                    refine hK _ _ ?_ hS ((fun w => Below.refl _ w) W) _ rfl rfl
                    first | rfl | go_simp | simp
                  · -- 7: Op.binOp BinOp.neq 4 (Operand.tmp 122) (Operand.tmp 123) 4
                    intro l hl vs W hS hR hp
                    obtain rfl : l = [(0, 117), (1, 118), (2, 119), (3, 120), (4, 121), (5, 122), (6, 123)] := hl.symm.trans (by kernel_rfl)
                    have p5 : vs 5 = _ := hp 5 (by decide) (by decide)
                    have p6 : vs 6 = _ := hp 6 (by decide) (by decide)
                    clear hp hl
                    refine opgoal (_) (some 124) rfl rfl fun K hK => ?_
                    refine Runs.mk ?_
                    simp only [putAll]
                    go_simp
                    refine hK _ _ ?_ hS ((fun w => Below.refl _ w) W) _ rfl rfl
                    first | rfl | go_simp | simp
                  · -- 8: Op.move (Operand.tmp 124)
                    intro l hl vs W hS hR hp
                    obtain rfl : l = [(0, 117), (1, 118), (2, 119), (3, 120), (4, 121), (5, 122), (6, 123), (7, 124)] := hl.symm.trans (by kernel_rfl)
                    have p7 : vs 7 = _ := hp 7 (by decide) (by decide)
                    clear hp hl
                    refine opgoal (_) (some 125) rfl rfl fun K hK => ?_
                    refine Runs.mk ?_
                    simp only [putAll]
                    go_simp
                    refine hK _ _ ?_ hS ((fun w => Below.refl _ w) W) _ rfl rfl
                    first | rfl | go_simp | simp
                  · -- 9: Op.move (Operand.tmp 5)  [(8, 'false')]
                    intro l hl vs W hS hR hp
                    obtain rfl : l = [(0, 117), (1, 118), (2, 119), (3, 120), (4, 121), (5, 122), (6, 123), (7, 124), (8, 125)] := hl.symm.trans (by kernel_rfl)
                    have p8 : vs 8 = _ := hp 8 (by decide) (by decide)
                    clear hp hl
                    refine opgoal (_) (some 126) rfl rfl fun K hK => ?_
                    refine Runs.mk ?_
                    simp only [putAll]
                    go_simp
                    refine hK _ _ ?_ hS ((fun w => Below.refl _ w) W) _ rfl rfl
                    first | rfl | go_simp | simp
                  · -- 10: Op.call { callee := Callee.value (Operand.func 39), args := #[Operand.tmp 126], argTypes := #[49] }  [(8, 'false')]
                    intro l hl vs W hS hR hp
                    obtain rfl : l = [(0, 117), (1, 118), (2, 119), (3, 120), (4, 121), (5, 122), (6, 123), (7, 124), (8, 125), (9, 126)] := hl.symm.trans (by kernel_rfl)
                    have p8 : vs 8 = _ := hp 8 (by decide) (by decide)
                    have p9 : vs 9 = _ := hp 9 (by decide) (by decide)
                    clear hp hl
                    refine opgoal (_) (some 127) rfl rfl fun K hK => ?_
                    refine Runs.mk ?_
                    simp only [putAll]
                    go_simp
                    refine (held_any bb gg T' W hS.1.lt.tab H HH.out).mono ?_
                    rintro e w' ⟨rfl, hb⟩
                    go_simp
                    exact hK _ _ rfl ⟨hS.1.below hb, hS.2.below hb⟩ hb _ rfl rfl
                  · -- 11: Op.move (Operand.tmp 7)  [(8, 'false')]
                    intro l hl vs W hS hR hp
                    obtain rfl : l = [(0, 117), (1, 118), (2, 119), (3, 120), (4, 121), (5, 122), (6, 123), (7, 124), (8, 125)] := hl.symm.trans (by kernel_rfl)
                    have p8 : vs 8 = _ := hp 8 (by decide) (by decide)
                    clear hp hl
                    refine opgoal (_) (some 128) rfl rfl fun K hK => ?_
                    refine Runs.mk ?_
                    simp only [putAll]
                    go_simp
                    refine hK _ _ ?_ hS ((fun w => Below.refl _ w) W) _ rfl rfl
                    first | rfl | go_simp | simp
                  · -- 12: Op.nilCheck (Operand.tmp 128)  [(8, 'false')]
                    intro l hl vs W hS hR hp
                    obtain rfl : l = [(0, 117), (1, 118), (2, 119), (3, 120), (4, 121), (5, 122), (6, 123), (7, 124), (8, 125), (11, 128)] := hl.symm.trans (by kernel_rfl)
                    have p8 : vs 8 = _ := hp 8 (by decide) (by decide)
                    have p11 : vs 11 = _ := hp 11 (by decide) (by decide)
                    clear hp hl
                    refine opgoal (_) (some 129) rfl rfl fun K hK => ?_
                    refine Runs.mk ?_
                    simp only [putAll]
                    go_simp
                    refine hK _ _ ?_ hS ((fun w => Below.refl _ w) W) _ rfl rfl
                    first | rfl | go_simp | simp
                  · -- 13: Op.fieldAddr 73 (Operand.tmp 129) 1  [(8, 'false')]
                    intro l hl vs W hS hR hp
                    obtain rfl : l = [(0, 117), (1, 118), (2, 119), (3, 120), (4, 121), (5, 122), (6, 123), (7, 124), (8, 125), (11, 128), (12, 129)] := hl.symm.trans (by kernel_rfl)
                    have p8 : vs 8 = _ := hp 8 (by decide) (by decide)
                    have p12 : vs 12 = _ := hp 12 (by decide) (by decide)
                    clear hp hl
                    refine opgoal (_) (some 130) rfl rfl fun K hK => ?_
                    refine Runs.mk ?_
                    simp only [putAll]
                    go_simp
                    refine hK _ _ ?_ hS ((fun w => Below.refl _ w) W) _ rfl rfl
                    first | rfl | go_simp | simp
                  · -- 14: Op.load 71 (Operand.tmp 130)  [(8, 'false')]
                    intro l hl vs W hS hR hp
                    obtain rfl : l = [(0, 117), (1, 118), (2, 119), (3, 120), (4, 121), (5, 122), (6, 123), (7, 124), (8, 125), (11, 128), (12, 129), (13, 130)] := hl.symm.trans (by kernel_rfl)
                    have p8 : vs 8 = _ := hp 8 (by decide) (by decide)
                    have p13 : vs 13 = _ := hp 13 (by decide) (by decide)
                    clear hp hl
                    refine opgoal (_) (some 131) rfl rfl fun K hK => ?_
                    have f1 := hS.2.c1
                    rw [HD.out] at f1
                    refine Runs.mk ?_
                    simp only [putAll]
                    go_simp
                    refine hK _ _ ?_ hS ((fun w => Below.refl _ w) W) _ rfl rfl
                    first | rfl | go_simp | simp
                  · -- 15: Op.call { callee := Callee.builtin Builtin.len, args := #[Operand.tmp 131], argTypes := #[71] }  [(8, 'false')]
                    intro l hl vs W hS hR hp
                    obtain rfl : l = [(0, 117), (1, 118), (2, 119), (3, 120), (4, 121), (5, 122), (6, 123), (7, 124), (8, 125), (11, 128), (12, 129), (13, 130), (14, 131)] := hl.symm.trans (by kernel_rfl)
                    have p8 : vs 8 = _ := hp 8 (by decide) (by decide)
                    have p14 : vs 14 = _ := hp 14 (by decide) (by decide)
                    clear hp hl
                    refine opgoal (_) (some 132) rfl rfl fun K hK => ?_
                    refine Runs.mk ?_
                    simp only [putAll]
                    go_simp
                    refine hK _ _ ?_ hS ((fun w => Below.refl _ w) W) _ rfl rfl
                    first | rfl | go_simp | simp
                  · -- 16: Op.binOp BinOp.neq 3 (Operand.tmp 127) (Operand.tmp 132) 3  [(8, 'false')]
                    intro l hl vs W hS hR hp
                    obtain rfl : l = [(0, 117), (1, 118), (2, 119), (3, 120), (4, 121), (5, 122), (6, 123), (7, 124), (8, 125), (9, 126), (10, 127), (11, 128), (12, 129), (13, 130), (14, 131), (15, 132)] := hl.symm.trans (by kernel_rfl)
                    have p8 : vs 8 = _ := hp 8 (by decide) (by decide)
                    have p10 : vs 10 = _ := hp 10 (by decide) (by decide)
                    have p15 : vs 15 = _ := hp 15 (by decide) (by decide)
                    clear hp hl
                    refine opgoal (_) (some 133) rfl rfl fun K hK => ?_
                    refine Runs.mk ?_
                    simp only [putAll]
                    go_simp
                    refine hK _ _ ?_ hS ((fun w => Below.refl _ w) W) _ rfl rfl
                    first | rfl | go_simp | simp
                  · -- 17: Op.pick (Operand.tmp 125) (Operand.const (Value.bool true)) (Operand.tmp 133)
                    intro l hl vs W hS hR hp
                    obtain rfl : l = [(0, 117), (1, 118), (2, 119), (3, 120), (4, 121), (5, 122), (6, 123), (7, 124), (8, 125), (9, 126), (10, 127), (11, 128), (12, 129), (13, 130), (14, 131), (15, 132), (16, 133)] := hl.symm.trans (by kernel_rfl)
                    have p8 : vs 8 = _ := hp 8 (by decide) (by decide)
                    have p16 : vs 16 = _ := hp 16 (by decide) (by decide)
                    clear hp hl
                    refine opgoal (_) (some 134) rfl rfl fun K hK => ?_
                    refine Runs.mk ?_
                    simp only [putAll]
                    go_simp
                    refine hK _ _ ?_ hS ((fun w => Below.refl _ w) W) _ rfl rfl
                    first | rfl | go_simp | simp
                · intro l hl vs W hS hR hp
                  obtain rfl : l = [(0, 117), (1, 118), (2, 119), (3, 120), (4, 121), (5, 122), (6, 123), (7, 124), (8, 125), (9, 126), (10, 127), (11, 128), (12, 129), (13, 130), (14, 131), (15, 132), (16, 133), (17, 134)] := hl.symm.trans (by kernel_rfl)
                  have p0 : vs 0 = _ := hp 0 (by decide) (by decide)
                  have p1 : vs 1 = _ := hp 1 (by decide) (by decide)
                  have p2 : vs 2 = _ := hp 2 (by decide) (by decide)
                  have p3 : vs 3 = _ := hp 3 (by decide) (by decide)
                  have p4 : vs 4 = _ := hp 4 (by decide) (by decide)
                  have p5 : vs 5 = _ := hp 5 (by decide) (by decide)
                  have p6 : vs 6 = _ := hp 6 (by decide) (by decide)
                  have p7 : vs 7 = _ := hp 7 (by decide) (by decide)
                  have p8 : vs 8 = _ := hp 8 (by decide) (by decide)
                  have p9 : vs 9 = _ := hp 9 (by decide) (by decide)
                  have p10 : vs 10 = _ := hp 10 (by decide) (by decide)
                  have p11 : vs 11 = _ := hp 11 (by decide) (by decide)
                  have p12 : vs 12 = _ := hp 12 (by decide) (by decide)
                  have p13 : vs 13 = _ := hp 13 (by decide) (by decide)
                  have p14 : vs 14 = _ := hp 14 (by decide) (by decide)
                  have p15 : vs 15 = _ := hp 15 (by decide) (by decide)
                  have p16 : vs 16 = _ := hp 16 (by decide) (by decide)
                  have p17 : vs 17 = _ := hp 17 (by decide) (by decide)
                  clear hp hl
                  simp only [putAll_mk, setAll, List.setIfInBounds_toArray, List.set_cons_succ, List.set_cons_zero, p0, p1, p2, p3, p4, p5, p6, p7, p8, p9, p10, p11, p12, p13, p14, p15, p16, p17]
                  have HST := Lib.hid hS.1
                  clear hS hR hS0
                  go_wp2_with fail
                  go_loopg [13] (N + 2) (fun gk i wz => ∃ z : Nat, gk = N + 2 - z ∧ z ≤ N + 2 ∧ i = .int .i64 ((z : Int) - 1) ∧ St w1 wz bb gg bw ob N T' T' ⟨xk, xn, xa, xb, xc, ⟨LA, Ln, Lc, Lxs⟩⟩)
                  case atStart => exact ⟨0, by omega, by omega, rfl, HST.out⟩
                  case round =>
                    obtain ⟨z, rfl, hz, rfl, hSz⟩ := hrel
                    by_cases hzl : z < N + 2
                    · have HSz := Lib.hid hSz
                      have HAB := Lib.hid (off_or T' ((z : Int) - 1))
                      have hTl : Hid (T'.length = N) := Lib.hid hSz.lenT
                      clear hSz
                      rcases HAB.out with hoff | ⟨j, hj, hcj, hon⟩
                      · have HO := Lib.hid (st_off HSz.out _ hoff)
                        have hat := Lib.hid (off_at hoff)
                        clear hoff HAB
                        go_wp2_with fail
                        refine HO.out.mono ?_
                        rintro e w6 ⟨rfl, hb6⟩
                        obtain ⟨W6, hW6⟩ : ∃ W, Hid (w6.alloc (.cells #[.int .i64 0, .int .i64 0, .int .i64 0, .int .i64 0] 58) = W) := ⟨_, Lib.hid rfl⟩
                        have hbW : Below w6.heap.size w6 W6 := by rw [← hW6.out]; exact below_alloc _ _
                        have hbk : W6.heap[w6.heap.size]? = some (.cells #[.int .i64 0, .int .i64 0, .int .i64 0, .int .i64 0] 58 (0, 0)) := by rw [← hW6.out]; exact heap_alloc_new _ _
                        have HS6 := Lib.hid ((HSz.out.below hb6).below hbW)
                        have t0 : W6.cell? ⟨w6.heap.size, 0, none⟩ = some (.int .i64 0) := by rw [cell_of_row _ _ 0 _ _ _ hbk]; rfl
                        have t1 : W6.cell? ⟨w6.heap.size, 1, none⟩ = some (.int .i64 0) := by rw [cell_of_row _ _ 1 _ _ _ hbk]; rfl
                        have t2 : W6.cell? ⟨w6.heap.size, 2, none⟩ = some (.int .i64 0) := by rw [cell_of_row _ _ 2 _ _ _ hbk]; rfl
                        have t3 : W6.cell? ⟨w6.heap.size, 3, none⟩ = some (.int .i64 0) := by rw [cell_of_row _ _ 3 _ _ _ hbk]; rfl
                        have HQ := Lib.hid (st_at HS6.out ((z : Int) - 1) (-1) hat.out)
                        clear hbk hbW hb6 HO
                        go_wp2_with fail
                        rw [hW6.out]
                        refine HQ.out.mono ?_
                        rintro e w7 ⟨rfl, rfl⟩
                        have hm2 := hold_guard
                        have hq1 : ∀ w, (Op.equalIn 10000 58 (.agg #[.int .i64 0, .int .i64 0, .int .i64 0, .int .i64 0]) (.agg #[.int .i64 0, .int .i64 0, .int .i64 0, .int .i64 0])).run Try.prog w = .ok true w := fun w => by rw [hold_eq]; rfl
                        clear HQ
                        go_wp2_with fail
                        go_quiet (fail)
                        go_wp2
                        go_roundg (N + 2 - (z + 1))
                        case measure => omega
                        case rel => exact ⟨z + 1, rfl, by omega, by go_num, HS6.out.below (below_drewN _ _)⟩
                      · obtain ⟨s, hs⟩ : ∃ s, Hid (T'[j] = s) := ⟨_, Lib.hid rfl⟩
                        rw [hs.out] at hon
                        obtain ⟨a1, a2, a3⟩ := at_onD hj (by rw [hs.out]; exact hon)
                        rw [hs.out] at a2
                        obtain ⟨p, hp⟩ : ∃ p, Hid (heldN (T'.take j) = p) := ⟨_, Lib.hid rfl⟩
                        rw [hp.out] at a1 a2
                        have hat : Hid (atD (toD T') ((z : Int) - 1) = (p : Nat)) := Lib.hid (by rw [hcj]; exact a1)
                        have hpl := (List.getElem?_eq_some_iff.1 a2).1
                        have hpe : Hid ((toD T')[p] = dhOf j s) := Lib.hid (by obtain ⟨_, h⟩ := List.getElem?_eq_some_iff.1 a2; exact h)
                        have hpH : p < H := by rw [← HD.out]; exact hpl
                        have hH16 : H ≤ 9223372036854775807 := by
                          have h1 := heldN_le T'
                          have h2 := HH.out
                          have h3 := hTl.out
                          omega
                        have HO : Hid (Calls Try.prog 31 #[.pointer (some ⟨bb, 0, none⟩), .int .i64 ((z : Int) - 1)] wr fun e w' => e = .returned (.tuple #[.agg #[.int .i64 s.a, .int .i64 s.b, .int .i64 s.c, .int .i64 s.u], .bool true]) ∧ Below wr.heap.size wr w') := Lib.hid (by rw [hcj]; exact st_on HSz.out j hj s hs.out hon)
                        obtain ⟨sa, sb, sc, su, son⟩ := s
                        dsimp only at HO
                        simp only [dhOf] at hpe
                        clear HAB hon a1 a2 a3 hcj
                        go_wp2_with fail
                        refine HO.out.mono ?_
                        rintro e w6 ⟨rfl, hb6⟩
                        obtain ⟨W6, hW6⟩ : ∃ W, Hid (w6.alloc (.cells #[.int .i64 sa, .int .i64 sb, .int .i64 sc, .int .i64 su] 58) = W) := ⟨_, Lib.hid rfl⟩
                        have hbW : Below w6.heap.size w6 W6 := by rw [← hW6.out]; exact below_alloc _ _
                        have hbk : W6.heap[w6.heap.size]? = some (.cells #[.int .i64 sa, .int .i64 sb, .int .i64 sc, .int .i64 su] 58 (0, 0)) := by rw [← hW6.out]; exact heap_alloc_new _ _
                        have HS6 := Lib.hid ((HSz.out.below hb6).below hbW)
                        have t0 : W6.cell? ⟨w6.heap.size, 0, none⟩ = some (.int .i64 sa) := by rw [cell_of_row _ _ 0 _ _ _ hbk]; rfl
                        have t1 : W6.cell? ⟨w6.heap.size, 1, none⟩ = some (.int .i64 sb) := by rw [cell_of_row _ _ 1 _ _ _ hbk]; rfl
                        have t2 : W6.cell? ⟨w6.heap.size, 2, none⟩ = some (.int .i64 sc) := by rw [cell_of_row _ _ 2 _ _ _ hbk]; rfl
                        have t3 : W6.cell? ⟨w6.heap.size, 3, none⟩ = some (.int .i64 su) := by rw [cell_of_row _ _ 3 _ _ _ hbk]; rfl
                        have HQ := Lib.hid (st_at HS6.out ((z : Int) - 1) (p : Nat) hat.out)
                        clear hbk hbW hb6 HO
                        go_wp2_with fail
                        rw [hW6.out]
                        refine HQ.out.mono ?_
                        rintro e w7 ⟨rfl, rfl⟩
                        obtain ⟨Ae, ce, hDe, _⟩ := HS6.out.doc
                        have d1 := hDe.c1
                        rw [HD.out] at d1
                        obtain ⟨g, hAe, _, _, _, e1, e2, e3, e4⟩ := hDe.row p hpl _ hpe.out
                        dsimp only at e1 e2 e3 e4
                        subst hAe
                        have hm2 := tid_guard
                        have hq1 : ∀ w, (Op.equalIn 10000 55 (.agg #[.int .i64 sa, .int .i64 sb, .int .i64 sc]) (.agg #[.int .i64 sa, .int .i64 sb, .int .i64 sc])).run Try.prog w = .ok true w := fun w => by rw [tid_eq]; simp [tidB]
                        clear HQ hDe hpe hpl
                        go_wp2_with fail
                        go_quiet (fail)
                        go_wp2
                        go_roundg (N + 2 - (z + 1))
                        case measure => omega
                        case rel => exact ⟨z + 1, rfl, by omega, by go_num, HS6.out.below (below_drewN _ _)⟩
                    · have HSz := Lib.hid hSz
                      obtain ⟨Ae, ce, hDe, _⟩ := hSz.doc
                      have HDe := Lib.hid hDe
                      have hout : ¬ ((z : Int) - 1 ≤ (N : Int)) := by omega
                      clear hSz hDe
                      go_wp2
                      go_roundg (n - (k + 1))
                      case measure => omega
                      case rel => exact ⟨k + 1, T', Ae, ce, rfl, by omega, by go_num, HSz.out.lt, HSz.out.lenT, HDe.out⟩
        · clear hk
          go_wp2
          go_ret
          exact ⟨rfl, below2 HB.out hL.low⟩
end Go.Proofs.Ytljdiaokjocfpaa.Ls

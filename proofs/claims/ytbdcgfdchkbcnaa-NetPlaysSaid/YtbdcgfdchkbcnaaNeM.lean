/- net: Double. -/
import Derived.Test.YtbdcgfdchkbcnaaNeK
namespace Go.Proofs.Ytbdcgfdchkbcnaa.Ne
open Go.RowKit Go.Proofs.Ytbdcgfdchkbcnaa.L Go.Proofs.Ytbdcgfdchkbcnaa.O Go.Proofs.Ytbdcgfdchkbcnaa.R Go.Proofs.Ytbdcgfdchkbcnaa.A Go.Proofs.Ytbdcgfdchkbcnaa.S Go.Proofs.Ytbdcgfdchkbcnaa.T Go.Proofs.Ytbdcgfdchkbcnaa.C Go.Proofs.Ytbdcgfdchkbcnaa.G Go.Proofs.Ytbdcgfdchkbcnaa.E
set_option linter.unusedVariables false
set_option linter.unusedSimpArgs false

structure PushD (b mb nodes n : Nat) (f : Int → Int → Bool) (sz : Nat) (v0 : Value) (L : List Value) (k : Nat) (NW : List Value) (f7 f10 : Bool) (W : World) : Prop where
  blk : f10 = false → W.heap[b]? = some (.cells #[.int .i64 nodes, .map (some mb), v0] 106 (0, 0)) ∧ W.cell? ⟨b, 2, none⟩ = some v0
  own : f7 = false → W.ownsRow (b + 1) PT 4 v0 k L
  map : WayMap W mb n f
  last : f10 = true → ∃ v, Nt W b mb nodes n f v (L ++ NW) (k + 1) ∧ (v.ownBlock = v0.ownBlock ∨ ∀ k, v.ownBlock = some k → sz ≤ k)
  szw : sz ≤ W.heap.size
  sb : b < sz
  mbb : mb < b
  gb : ∀ j, v0.ownBlock = some j → b + 1 ≤ j
section
variable {b mb nodes n : Nat} {f : Int → Int → Bool} {sz : Nat} {v0 : Value} {L NW : List Value} {k : Nat} {f7 f10 : Bool} {W W' : World}
theorem PushD.below (h : PushD b mb nodes n f sz v0 L k NW f7 f10 W) (hb : Below W.heap.size W W') : PushD b mb nodes n f sz v0 L k NW f7 f10 W' := by
  have hk : Keep [] W W' := .of_below hb
  exact ⟨fun hf => ⟨keep_block hk (h.blk hf).1 (by simp), keep_cell hk (h.blk hf).2 (by simp)⟩, fun hf => own_kept (h.own hf) hb, h.map.keep hk (by simp),
    fun hf => (by obtain ⟨v, hc, hv⟩ := h.last hf; exact ⟨v, hc.below hb, hv⟩), Nat.le_trans h.szw hk.size, h.sb, h.mbb, h.gb⟩
theorem PushD.app (h : PushD b mb nodes n f sz v0 L k NW false false W) (hk : Keep v0.ownBlock.toList W W') : PushD b mb nodes n f sz v0 L k NW true false W' := by
  have hb : b ∉ v0.ownBlock.toList := fun hm => by have := h.gb b (by simpa using hm); omega
  have hmb : mb ∉ v0.ownBlock.toList := fun hm => by have := h.gb mb (by simpa using hm); have := h.mbb; omega
  exact ⟨fun hf => ⟨keep_block hk (h.blk rfl).1 hb, keep_cell hk (h.blk rfl).2 hb⟩, (fun h => by cases h), h.map.keep hk hmb, (fun h => by cases h), Nat.le_trans h.szw hk.size, h.sb, h.mbb, h.gb⟩
theorem PushD.fin {v : Value} (h : PushD b mb nodes n f sz v0 L k NW true false W) (ho : W.ownsRow (b + 1) PT 4 v (k + 1) (L ++ NW)) (hv : v.ownBlock = v0.ownBlock ∨ ∀ k, v.ownBlock = some k → sz ≤ k) :
    PushD b mb nodes n f sz v0 L k NW true true (W.setCell ⟨b, 2, none⟩ v) := by
  have hk : Keep [b] W (W.setCell ⟨b, 2, none⟩ v) := (Keep.refl _ _).setCell (p := ⟨b, 2, none⟩) (.inl (by simp)) _
  have hmb : mb ∉ [b] := by have := h.mbb; simp; omega
  exact ⟨(fun h => by cases h), (fun h => by cases h), h.map.keep hk hmb, (fun _ => ⟨v, ⟨(Go.Proofs.Ytbdcgfdchkbcnaa.L.heap_setCell_at W b 2 _ _ _ v (h.blk rfl).1).trans rfl, own_keep ho hk (fun k hk => by have := (own_lt ho k hk).1; simp; omega), h.map.keep hk hmb, h.mbb⟩, hv⟩), Nat.le_trans h.szw hk.size, h.sb, h.mbb, h.gb⟩
end
set_option maxHeartbeats 8000000 in
set_option maxRecDepth 100000 in
theorem double_ok (b mb nodes n : Nat) (f : Int → Int → Bool) (VV : Value) (Ls : List Pkt) (ix : Nat) (w0 : World) (h : Nt w0 b mb nodes n f VV (Ls.flatMap encP) Ls.length) (hi : ix < Ls.length) (hk : Ls.length < 256) :
    Calls Try.prog 22 #[.pointer (some ⟨b, 0, none⟩), .int .i64 ix] w0 fun e w' => e = .returned (.int .i64 0) ∧ ∃ v', Nt w' b mb nodes n f v' ((Ls ++ [Ls[ix]]).flatMap encP) (Ls.length + 1) ∧ ChN b VV w0 v' w' := by
  obtain ⟨vg, vc, hv⟩ : ∃ g cap, VV = .slice (some ⟨g, 0, none⟩) Ls.length cap := by
    rcases h.own.2 with ⟨_, hn⟩ | ⟨g, cap, cur, hv, _⟩
    · omega
    · exact ⟨g, cap, hv⟩
  obtain ⟨k, hkk⟩ : ∃ k, Ls.length = k := ⟨_, rfl⟩
  obtain ⟨⟨px, py, pS, pq⟩, hp⟩ : ∃ p : Pkt, Ls[ix] = p := ⟨_, rfl⟩
  rw [hp, List.flatMap_append]
  obtain ⟨NW, hNW⟩ : ∃ NW, ([⟨px, py, pS, pq⟩] : List Pkt).flatMap encP = NW := ⟨_, rfl⟩
  have HNW : Hid (NW.length = 1 * 4 ∧ NW = [.int .i64 px, .int .i64 py, .string pS, .bool pq]) := Lib.hid (by rw [← hNW]; exact ⟨rfl, rfl⟩)
  rw [hNW]
  obtain ⟨L, hL⟩ : ∃ L, Ls.flatMap encP = L := ⟨_, rfl⟩
  have hT := there_ok b nodes mb n f VV _ Ls.length ix w0 h hi
  rw [hL, hkk] at h
  have HT := Lib.hid hT
  rw [hL, hkk]
  rw [hkk] at hv hi hk
  have hVV : Hid (VV = .slice (some ⟨vg, 0, none⟩) k vc) := Lib.hid hv
  have hk256 : Hid (k < 256) := Lib.hid hk
  have HIK : Hid (ix < k) := Lib.hid hi
  have HEL : Hid (∀ W : World, W.ownsRow (b + 1) PT 4 VV k L → W.cell? ⟨vg, ix * 4, none⟩ = some (.int .i64 px) ∧ W.cell? ⟨vg, ix * 4 + 1, none⟩ = some (.int .i64 py) ∧ W.cell? ⟨vg, ix * 4 + 2, none⟩ = some (.string pS) ∧ W.cell? ⟨vg, ix * 4 + 3, none⟩ = some (.bool pq)) := Lib.hid fun W ho => by
    rw [hv, ← hL] at ho
    obtain ⟨A', c', hv', hrd, -, -⟩ := own_rdE ho encP_len hkk
    cases hv'
    obtain ⟨ab, ao, hAe, q0, q1, q2, q3⟩ := pkt_at hrd ix (by omega) (by omega) _ hp
    obtain ⟨rfl, rfl⟩ : vg = ab ∧ 0 = ao := by injection hAe with h1; injection h1 with h1 h2; exact ⟨h1, h2⟩
    rw [Nat.zero_add] at q0 q1 q2 q3
    exact ⟨q0, q1, q2, q3⟩
  have HS0 : Hid (PushD b mb nodes n f w0.heap.size VV L k NW false false w0.drew) := Lib.hid ⟨fun _ => ⟨h.blk, h.cell.2.2.1⟩, fun _ => h.own, h.map.keep (.of_below (S := []) (below_drewN 1 w0)) (by simp), (fun h => by cases h), Nat.le_refl _, (Array.getElem?_eq_some_iff.1 h.blk).1, h.mb, fun j hj => (own_lt h.own j hj).1⟩
  have HREL : Hid (∀ W, PushD b mb nodes n f w0.heap.size VV L k NW true true W → Keep (b :: VV.ownBlock.toList) w0.drew W → ∃ v', Nt W b mb nodes n f v' (L ++ NW) (k + 1) ∧ ChN b VV w0 v' W) := Lib.hid fun W hp hkp => by
    obtain ⟨v', h1, h2⟩ := hp.last rfl
    exact ⟨v', h1, ((Keep.refl _ w0).drew).trans hkp, h2⟩
  obtain ⟨c0, c1, c2, f2⟩ := h.cell
  rw [hv] at c2
  have hkd : decide ((256 : Int) ≤ (k : Int)) = false := by simp; omega
  clear h hv hk hi hp hNW hL hT hkk c0 c1 f2
  go_enter Try.func22, Try.ntmps22
  go_wp2_with fail
  refine HT.out.mono ?_
  rintro e w1 ⟨rfl, rfl⟩
  go_wp2_with fail
  have hS0 := HS0.out
  refine wp_region_done (fun d => PushD b mb nodes n f w0.heap.size VV L k NW (d 13) (d 16)) (fun u v => Keep (b :: VV.ownBlock.toList) u v) (fun k u v => (k = 13 → (fun u v => Keep VV.ownBlock.toList u v) u v) ∧ (k = 16 → (fun u v => Keep [b] u v) u v) ∧ (¬ k = 13 → ¬ k = 16 → (fun u v => Below u.heap.size u v) u v)) (fun a i => match i with
      | 0 => (fun v _ => v = .pointer (some ⟨b, 0, none⟩))
      | 1 => (fun v _ => v = .pointer (some ⟨b, 0, none⟩))
      | 2 => (fun v _ => v = .pointer (some ⟨b, 0, none⟩))
      | 3 => (fun v _ => v = .pointer (some ⟨b, 2, none⟩))
      | 4 => (fun v _ => v = .slice (some ⟨vg, 0, none⟩) k vc)
      | 5 => (fun v _ => v = .pointer (some ⟨b, 0, none⟩))
      | 6 => (fun v _ => v = .pointer (some ⟨b, 0, none⟩))
      | 7 => (fun v _ => v = .pointer (some ⟨b, 2, none⟩))
      | 8 => (fun v _ => v = .slice (some ⟨vg, 0, none⟩) k vc)
      | 9 => (fun v _ => v = .int .i64 (ix : Int))
      | 10 => (fun v _ => v = .pointer (some ⟨vg, ix * 4, none⟩))
      | 11 => (fun v _ => v = .agg #[.int .i64 px, .int .i64 py, .string pS, .bool pq])
      | 12 => (fun v W => ∃ j, v = .slice (some ⟨j, 0, none⟩) 1 1 ∧ j < W.heap.size ∧ W.heap[j]? = some (.cells #[.int .i64 px, .int .i64 py, .string pS, .bool pq] PT (0, 0)))
      | 13 => (fun v W => W.ownsRow (b + 1) PT 4 v (k + 1) (L ++ NW) ∧ (v.ownBlock = VV.ownBlock ∨ ∀ k, v.ownBlock = some k → w0.heap.size ≤ k))
      | 14 => (fun v _ => v = .pointer (some ⟨b, 0, none⟩))
      | 15 => (fun v _ => v = .pointer (some ⟨b, 2, none⟩))
      | 16 => (fun v W => True)
      | _ => (fun _ _ => True)) #[0, 0, 2, 6, 14, 0, 32, 96, 224, 0, 992, 2016, 4064, 8190, 16383, 32767, 65535] #[0, 0, 2, 4, 8, 0, 32, 64, 128, 0, 768, 1024, 2048, 4112, 1, 16384, 40960] 118783 (by kernel_rfl) 17 rfl (fun m hm => by subst hm; kernel_rfl) (by kernel_rfl) (fun w => Keep.refl _ w) (fun u v w h1 h2 => h1.trans h2) ?_ ?_ (hS0) ?_ ?_
  · intro k u v hk hr
    by_cases hs13 : k = 13
    · have h := hr.1 hs13; exact h.mono (by intro x hx; exact List.mem_cons_of_mem _ hx)
    by_cases hs16 : k = 16
    · have h := hr.2.1 hs16; exact h.mono (by simp)
    have h := hr.2.2 hs13 hs16; exact Keep.of_below h
  · intro i hi
    rcases (by omega : i = 0 ∨ i = 1 ∨ i = 2 ∨ i = 3 ∨ i = 4 ∨ i = 5 ∨ i = 6 ∨ i = 7 ∨ i = 8 ∨ i = 9 ∨ i = 10 ∨ i = 11 ∨ i = 12 ∨ i = 13 ∨ i = 14 ∨ i = 15 ∨ i = 16) with rfl | rfl | rfl | rfl | rfl | rfl | rfl | rfl | rfl | rfl | rfl | rfl | rfl | rfl | rfl | rfl | rfl
    · intro k hk y hy hyt v w w' h hr
      exact h
    · intro k hk y hy hyt v w w' h hr
      exact h
    · intro k hk y hy hyt v w w' h hr
      exact h
    · intro k hk y hy hyt v w w' h hr
      exact h
    · intro k hk y hy hyt v w w' h hr
      exact h
    · intro k hk y hy hyt v w w' h hr
      exact h
    · intro k hk y hy hyt v w w' h hr
      exact h
    · intro k hk y hy hyt v w w' h hr
      exact h
    · intro k hk y hy hyt v w w' h hr
      exact h
    · intro k hk y hy hyt v w w' h hr
      exact h
    · intro k hk y hy hyt v w w' h hr
      exact h
    · intro k hk y hy hyt v w w' h hr
      exact h
    · intro k hk y hy hyt v w w' h hr
      by_cases hs13 : k = 13
      · have hr0 := hr.1 hs13
        subst hs13
        exact absurd (hy.trans hyt) (ne_true_of_eq_false (by kernel_rfl))
      by_cases hs16 : k = 16
      · have hr0 := hr.2.1 hs16
        subst hs16
        exact absurd (hy.trans hyt) (ne_true_of_eq_false (by kernel_rfl))
      have hr := hr.2.2 hs13 hs16
      obtain ⟨j, h1, h2, h3⟩ := h; exact ⟨j, h1, Nat.lt_of_lt_of_le h2 hr.size, (hr.block j h2).trans h3⟩
    · intro k hk y hy hyt v w w' h hr
      by_cases hs13 : k = 13
      · have hr0 := hr.1 hs13
        subst hs13
        exact absurd (hy.trans hyt) (ne_true_of_eq_false (by kernel_rfl))
      by_cases hs16 : k = 16
      · have hr0 := hr.2.1 hs16
        subst hs16
        exact absurd (hy.trans hyt) (ne_true_of_eq_false (by kernel_rfl))
      have hr := hr.2.2 hs13 hs16
      exact ⟨own_kept h.1 hr, h.2⟩
    · intro k hk y hy hyt v w w' h hr
      exact h
    · intro k hk y hy hyt v w w' h hr
      exact h
    · intro k hk y hy hyt v w w' h hr
      by_cases hs13 : k = 13
      · have hr0 := hr.1 hs13
        subst hs13
        exact absurd (hy.trans hyt) (ne_true_of_eq_false (by kernel_rfl))
      by_cases hs16 : k = 16
      · have hr0 := hr.2.1 hs16
        subst hs16
        exact absurd (hy.trans hyt) (ne_true_of_eq_false (by kernel_rfl))
      have hr := hr.2.2 hs13 hs16
      exact trivial
  · intro i hi
    rcases (by omega : i = 0 ∨ i = 1 ∨ i = 2 ∨ i = 3 ∨ i = 4 ∨ i = 5 ∨ i = 6 ∨ i = 7 ∨ i = 8 ∨ i = 9 ∨ i = 10 ∨ i = 11 ∨ i = 12 ∨ i = 13 ∨ i = 14 ∨ i = 15 ∨ i = 16) with rfl | rfl | rfl | rfl | rfl | rfl | rfl | rfl | rfl | rfl | rfl | rfl | rfl | rfl | rfl | rfl | rfl
    · -- 0: Op.move (Operand.tmp 0)
      intro l hl vs W dn e1 e2 e3 hS hR hp
      have f13 : dn 13 = dn 13 := rfl
      have f16 : dn 16 = false := e3 16 (by kernel_rfl)
      replace hS : (PushD b mb nodes n f w0.heap.size VV L k NW (dn 13) (dn 16)) W := hS
      rw [f16] at hS
      have g13 : (dn 13 || ((0 : Nat) == 13)) = dn 13 := Bool.or_false _
      have g16 : (dn 16 || ((0 : Nat) == 16)) = false := by rw [f16]; rfl
      refine OpGoal.imp (S1 := PushD b mb nodes n f w0.heap.size VV L k NW (dn 13) false) (fun W' h => ?_) ?_
      · show (PushD b mb nodes n f w0.heap.size VV L k NW (dn 13 || ((0 : Nat) == 13)) (dn 16 || ((0 : Nat) == 16))) W'
        rw [g13, g16]
        exact h
      clear g13 g16 e1 e2 e3
      obtain rfl : l = [] := hl.symm.trans (by kernel_rfl)
      clear hp hl
      refine opgoal (_) (some 17) rfl rfl fun K hK => ?_
      refine Runs.mk ?_
      simp only [putAll]
      go_simp
      refine hK _ _ ?_ hS ⟨fun h => absurd h (by decide), fun h => absurd h (by decide), fun h13 h16 => ((fun w => Below.refl _ w) W)⟩ _ rfl rfl
      first | rfl | go_simp | simp
    · -- 1: Op.move (Operand.tmp 0)
      intro l hl vs W dn e1 e2 e3 hS hR hp
      have f13 : dn 13 = false := e3 13 (by kernel_rfl)
      have f16 : dn 16 = false := e3 16 (by kernel_rfl)
      replace hS : (PushD b mb nodes n f w0.heap.size VV L k NW (dn 13) (dn 16)) W := hS
      rw [f13, f16] at hS
      have g13 : (dn 13 || ((1 : Nat) == 13)) = false := by rw [f13]; rfl
      have g16 : (dn 16 || ((1 : Nat) == 16)) = false := by rw [f16]; rfl
      refine OpGoal.imp (S1 := PushD b mb nodes n f w0.heap.size VV L k NW false false) (fun W' h => ?_) ?_
      · show (PushD b mb nodes n f w0.heap.size VV L k NW (dn 13 || ((1 : Nat) == 13)) (dn 16 || ((1 : Nat) == 16))) W'
        rw [g13, g16]
        exact h
      clear g13 g16 e1 e2 e3
      obtain rfl : l = [] := hl.symm.trans (by kernel_rfl)
      clear hp hl
      refine opgoal (_) (some 18) rfl rfl fun K hK => ?_
      refine Runs.mk ?_
      simp only [putAll]
      go_simp
      refine hK _ _ ?_ hS ⟨fun h => absurd h (by decide), fun h => absurd h (by decide), fun h13 h16 => ((fun w => Below.refl _ w) W)⟩ _ rfl rfl
      first | rfl | go_simp | simp
    · -- 2: Op.nilCheck (Operand.tmp 18)
      intro l hl vs W dn e1 e2 e3 hS hR hp
      have f13 : dn 13 = false := e3 13 (by kernel_rfl)
      have f16 : dn 16 = false := e3 16 (by kernel_rfl)
      replace hS : (PushD b mb nodes n f w0.heap.size VV L k NW (dn 13) (dn 16)) W := hS
      rw [f13, f16] at hS
      have g13 : (dn 13 || ((2 : Nat) == 13)) = false := by rw [f13]; rfl
      have g16 : (dn 16 || ((2 : Nat) == 16)) = false := by rw [f16]; rfl
      refine OpGoal.imp (S1 := PushD b mb nodes n f w0.heap.size VV L k NW false false) (fun W' h => ?_) ?_
      · show (PushD b mb nodes n f w0.heap.size VV L k NW (dn 13 || ((2 : Nat) == 13)) (dn 16 || ((2 : Nat) == 16))) W'
        rw [g13, g16]
        exact h
      clear g13 g16 e1 e2 e3
      obtain rfl : l = [(1, 18)] := hl.symm.trans (by kernel_rfl)
      have p1 : vs 1 = _ := hp 1 (by decide) (by decide)
      clear hp hl
      refine opgoal (_) (some 19) rfl rfl fun K hK => ?_
      refine Runs.mk ?_
      simp only [putAll]
      go_simp
      refine hK _ _ ?_ hS ⟨fun h => absurd h (by decide), fun h => absurd h (by decide), fun h13 h16 => ((fun w => Below.refl _ w) W)⟩ _ rfl rfl
      first | rfl | go_simp | simp
    · -- 3: Op.fieldAddr 106 (Operand.tmp 19) 1
      intro l hl vs W dn e1 e2 e3 hS hR hp
      have f13 : dn 13 = false := e3 13 (by kernel_rfl)
      have f16 : dn 16 = false := e3 16 (by kernel_rfl)
      replace hS : (PushD b mb nodes n f w0.heap.size VV L k NW (dn 13) (dn 16)) W := hS
      rw [f13, f16] at hS
      have g13 : (dn 13 || ((3 : Nat) == 13)) = false := by rw [f13]; rfl
      have g16 : (dn 16 || ((3 : Nat) == 16)) = false := by rw [f16]; rfl
      refine OpGoal.imp (S1 := PushD b mb nodes n f w0.heap.size VV L k NW false false) (fun W' h => ?_) ?_
      · show (PushD b mb nodes n f w0.heap.size VV L k NW (dn 13 || ((3 : Nat) == 13)) (dn 16 || ((3 : Nat) == 16))) W'
        rw [g13, g16]
        exact h
      clear g13 g16 e1 e2 e3
      obtain rfl : l = [(1, 18), (2, 19)] := hl.symm.trans (by kernel_rfl)
      have p2 : vs 2 = _ := hp 2 (by decide) (by decide)
      clear hp hl
      refine opgoal (_) (some 20) rfl rfl fun K hK => ?_
      refine Runs.mk ?_
      simp only [putAll]
      go_simp
      refine hK _ _ ?_ hS ⟨fun h => absurd h (by decide), fun h => absurd h (by decide), fun h13 h16 => ((fun w => Below.refl _ w) W)⟩ _ rfl rfl
      first | rfl | go_simp | simp
    · -- 4: Op.load 22 (Operand.tmp 20)
      intro l hl vs W dn e1 e2 e3 hS hR hp
      have f13 : dn 13 = false := e3 13 (by kernel_rfl)
      have f16 : dn 16 = false := e3 16 (by kernel_rfl)
      replace hS : (PushD b mb nodes n f w0.heap.size VV L k NW (dn 13) (dn 16)) W := hS
      rw [f13, f16] at hS
      have g13 : (dn 13 || ((4 : Nat) == 13)) = false := by rw [f13]; rfl
      have g16 : (dn 16 || ((4 : Nat) == 16)) = false := by rw [f16]; rfl
      refine OpGoal.imp (S1 := PushD b mb nodes n f w0.heap.size VV L k NW false false) (fun W' h => ?_) ?_
      · show (PushD b mb nodes n f w0.heap.size VV L k NW (dn 13 || ((4 : Nat) == 13)) (dn 16 || ((4 : Nat) == 16))) W'
        rw [g13, g16]
        exact h
      clear g13 g16 e1 e2 e3
      obtain rfl : l = [(1, 18), (2, 19), (3, 20)] := hl.symm.trans (by kernel_rfl)
      have p3 : vs 3 = _ := hp 3 (by decide) (by decide)
      clear hp hl
      refine opgoal (_) (some 21) rfl rfl fun K hK => ?_
      have hc1 : W.cell? ⟨b, 2, none⟩ = some VV := (hS.blk rfl).2
      rw [hVV.out] at hc1
      refine Runs.mk ?_
      simp only [putAll]
      go_simp
      refine hK _ _ ?_ hS ⟨fun h => absurd h (by decide), fun h => absurd h (by decide), fun h13 h16 => ((fun w => Below.refl _ w) W)⟩ _ rfl rfl
      first | rfl | go_simp | simp
    · -- 5: Op.move (Operand.tmp 0)
      intro l hl vs W dn e1 e2 e3 hS hR hp
      have f13 : dn 13 = false := e3 13 (by kernel_rfl)
      have f16 : dn 16 = false := e3 16 (by kernel_rfl)
      replace hS : (PushD b mb nodes n f w0.heap.size VV L k NW (dn 13) (dn 16)) W := hS
      rw [f13, f16] at hS
      have g13 : (dn 13 || ((5 : Nat) == 13)) = false := by rw [f13]; rfl
      have g16 : (dn 16 || ((5 : Nat) == 16)) = false := by rw [f16]; rfl
      refine OpGoal.imp (S1 := PushD b mb nodes n f w0.heap.size VV L k NW false false) (fun W' h => ?_) ?_
      · show (PushD b mb nodes n f w0.heap.size VV L k NW (dn 13 || ((5 : Nat) == 13)) (dn 16 || ((5 : Nat) == 16))) W'
        rw [g13, g16]
        exact h
      clear g13 g16 e1 e2 e3
      obtain rfl : l = [] := hl.symm.trans (by kernel_rfl)
      clear hp hl
      refine opgoal (_) (some 22) rfl rfl fun K hK => ?_
      refine Runs.mk ?_
      simp only [putAll]
      go_simp
      refine hK _ _ ?_ hS ⟨fun h => absurd h (by decide), fun h => absurd h (by decide), fun h13 h16 => ((fun w => Below.refl _ w) W)⟩ _ rfl rfl
      first | rfl | go_simp | simp
    · -- 6: Op.nilCheck (Operand.tmp 22)
      intro l hl vs W dn e1 e2 e3 hS hR hp
      have f13 : dn 13 = false := e3 13 (by kernel_rfl)
      have f16 : dn 16 = false := e3 16 (by kernel_rfl)
      replace hS : (PushD b mb nodes n f w0.heap.size VV L k NW (dn 13) (dn 16)) W := hS
      rw [f13, f16] at hS
      have g13 : (dn 13 || ((6 : Nat) == 13)) = false := by rw [f13]; rfl
      have g16 : (dn 16 || ((6 : Nat) == 16)) = false := by rw [f16]; rfl
      refine OpGoal.imp (S1 := PushD b mb nodes n f w0.heap.size VV L k NW false false) (fun W' h => ?_) ?_
      · show (PushD b mb nodes n f w0.heap.size VV L k NW (dn 13 || ((6 : Nat) == 13)) (dn 16 || ((6 : Nat) == 16))) W'
        rw [g13, g16]
        exact h
      clear g13 g16 e1 e2 e3
      obtain rfl : l = [(5, 22)] := hl.symm.trans (by kernel_rfl)
      have p5 : vs 5 = _ := hp 5 (by decide) (by decide)
      clear hp hl
      refine opgoal (_) (some 23) rfl rfl fun K hK => ?_
      refine Runs.mk ?_
      simp only [putAll]
      go_simp
      refine hK _ _ ?_ hS ⟨fun h => absurd h (by decide), fun h => absurd h (by decide), fun h13 h16 => ((fun w => Below.refl _ w) W)⟩ _ rfl rfl
      first | rfl | go_simp | simp
    · -- 7: Op.fieldAddr 106 (Operand.tmp 23) 1
      intro l hl vs W dn e1 e2 e3 hS hR hp
      have f13 : dn 13 = false := e3 13 (by kernel_rfl)
      have f16 : dn 16 = false := e3 16 (by kernel_rfl)
      replace hS : (PushD b mb nodes n f w0.heap.size VV L k NW (dn 13) (dn 16)) W := hS
      rw [f13, f16] at hS
      have g13 : (dn 13 || ((7 : Nat) == 13)) = false := by rw [f13]; rfl
      have g16 : (dn 16 || ((7 : Nat) == 16)) = false := by rw [f16]; rfl
      refine OpGoal.imp (S1 := PushD b mb nodes n f w0.heap.size VV L k NW false false) (fun W' h => ?_) ?_
      · show (PushD b mb nodes n f w0.heap.size VV L k NW (dn 13 || ((7 : Nat) == 13)) (dn 16 || ((7 : Nat) == 16))) W'
        rw [g13, g16]
        exact h
      clear g13 g16 e1 e2 e3
      obtain rfl : l = [(5, 22), (6, 23)] := hl.symm.trans (by kernel_rfl)
      have p6 : vs 6 = _ := hp 6 (by decide) (by decide)
      clear hp hl
      refine opgoal (_) (some 24) rfl rfl fun K hK => ?_
      refine Runs.mk ?_
      simp only [putAll]
      go_simp
      refine hK _ _ ?_ hS ⟨fun h => absurd h (by decide), fun h => absurd h (by decide), fun h13 h16 => ((fun w => Below.refl _ w) W)⟩ _ rfl rfl
      first | rfl | go_simp | simp
    · -- 8: Op.load 22 (Operand.tmp 24)
      intro l hl vs W dn e1 e2 e3 hS hR hp
      have f13 : dn 13 = false := e3 13 (by kernel_rfl)
      have f16 : dn 16 = false := e3 16 (by kernel_rfl)
      replace hS : (PushD b mb nodes n f w0.heap.size VV L k NW (dn 13) (dn 16)) W := hS
      rw [f13, f16] at hS
      have g13 : (dn 13 || ((8 : Nat) == 13)) = false := by rw [f13]; rfl
      have g16 : (dn 16 || ((8 : Nat) == 16)) = false := by rw [f16]; rfl
      refine OpGoal.imp (S1 := PushD b mb nodes n f w0.heap.size VV L k NW false false) (fun W' h => ?_) ?_
      · show (PushD b mb nodes n f w0.heap.size VV L k NW (dn 13 || ((8 : Nat) == 13)) (dn 16 || ((8 : Nat) == 16))) W'
        rw [g13, g16]
        exact h
      clear g13 g16 e1 e2 e3
      obtain rfl : l = [(5, 22), (6, 23), (7, 24)] := hl.symm.trans (by kernel_rfl)
      have p7 : vs 7 = _ := hp 7 (by decide) (by decide)
      clear hp hl
      refine opgoal (_) (some 25) rfl rfl fun K hK => ?_
      have hc1 : W.cell? ⟨b, 2, none⟩ = some VV := (hS.blk rfl).2
      rw [hVV.out] at hc1
      refine Runs.mk ?_
      simp only [putAll]
      go_simp
      refine hK _ _ ?_ hS ⟨fun h => absurd h (by decide), fun h => absurd h (by decide), fun h13 h16 => ((fun w => Below.refl _ w) W)⟩ _ rfl rfl
      first | rfl | go_simp | simp
    · -- 9: Op.move (Operand.tmp 1)
      intro l hl vs W dn e1 e2 e3 hS hR hp
      have f13 : dn 13 = false := e3 13 (by kernel_rfl)
      have f16 : dn 16 = false := e3 16 (by kernel_rfl)
      replace hS : (PushD b mb nodes n f w0.heap.size VV L k NW (dn 13) (dn 16)) W := hS
      rw [f13, f16] at hS
      have g13 : (dn 13 || ((9 : Nat) == 13)) = false := by rw [f13]; rfl
      have g16 : (dn 16 || ((9 : Nat) == 16)) = false := by rw [f16]; rfl
      refine OpGoal.imp (S1 := PushD b mb nodes n f w0.heap.size VV L k NW false false) (fun W' h => ?_) ?_
      · show (PushD b mb nodes n f w0.heap.size VV L k NW (dn 13 || ((9 : Nat) == 13)) (dn 16 || ((9 : Nat) == 16))) W'
        rw [g13, g16]
        exact h
      clear g13 g16 e1 e2 e3
      obtain rfl : l = [] := hl.symm.trans (by kernel_rfl)
      clear hp hl
      refine opgoal (_) (some 26) rfl rfl fun K hK => ?_
      refine Runs.mk ?_
      simp only [putAll]
      go_simp
      refine hK _ _ ?_ hS ⟨fun h => absurd h (by decide), fun h => absurd h (by decide), fun h13 h16 => ((fun w => Below.refl _ w) W)⟩ _ rfl rfl
      first | rfl | go_simp | simp
    · -- 10: Op.indexAddr 22 (Operand.tmp 25) (Operand.tmp 26)
      intro l hl vs W dn e1 e2 e3 hS hR hp
      have f13 : dn 13 = false := e3 13 (by kernel_rfl)
      have f16 : dn 16 = false := e3 16 (by kernel_rfl)
      replace hS : (PushD b mb nodes n f w0.heap.size VV L k NW (dn 13) (dn 16)) W := hS
      rw [f13, f16] at hS
      have g13 : (dn 13 || ((10 : Nat) == 13)) = false := by rw [f13]; rfl
      have g16 : (dn 16 || ((10 : Nat) == 16)) = false := by rw [f16]; rfl
      refine OpGoal.imp (S1 := PushD b mb nodes n f w0.heap.size VV L k NW false false) (fun W' h => ?_) ?_
      · show (PushD b mb nodes n f w0.heap.size VV L k NW (dn 13 || ((10 : Nat) == 13)) (dn 16 || ((10 : Nat) == 16))) W'
        rw [g13, g16]
        exact h
      clear g13 g16 e1 e2 e3
      obtain rfl : l = [(5, 22), (6, 23), (7, 24), (8, 25), (9, 26)] := hl.symm.trans (by kernel_rfl)
      have p8 : vs 8 = _ := hp 8 (by decide) (by decide)
      have p9 : vs 9 = _ := hp 9 (by decide) (by decide)
      clear hp hl
      refine opgoal (_) (some 27) rfl rfl fun K hK => ?_
      have hik := HIK.out
      refine Runs.mk ?_
      simp only [putAll]
      go_simp
      refine hK _ _ ?_ hS ⟨fun h => absurd h (by decide), fun h => absurd h (by decide), fun h13 h16 => ((fun w => Below.refl _ w) W)⟩ _ rfl rfl
      first | rfl | go_simp | simp
    · -- 11: Op.load 29 (Operand.tmp 27)
      intro l hl vs W dn e1 e2 e3 hS hR hp
      have f13 : dn 13 = false := e3 13 (by kernel_rfl)
      have f16 : dn 16 = false := e3 16 (by kernel_rfl)
      replace hS : (PushD b mb nodes n f w0.heap.size VV L k NW (dn 13) (dn 16)) W := hS
      rw [f13, f16] at hS
      have g13 : (dn 13 || ((11 : Nat) == 13)) = false := by rw [f13]; rfl
      have g16 : (dn 16 || ((11 : Nat) == 16)) = false := by rw [f16]; rfl
      refine OpGoal.imp (S1 := PushD b mb nodes n f w0.heap.size VV L k NW false false) (fun W' h => ?_) ?_
      · show (PushD b mb nodes n f w0.heap.size VV L k NW (dn 13 || ((11 : Nat) == 13)) (dn 16 || ((11 : Nat) == 16))) W'
        rw [g13, g16]
        exact h
      clear g13 g16 e1 e2 e3
      obtain rfl : l = [(5, 22), (6, 23), (7, 24), (8, 25), (9, 26), (10, 27)] := hl.symm.trans (by kernel_rfl)
      have p10 : vs 10 = _ := hp 10 (by decide) (by decide)
      clear hp hl
      refine opgoal (_) (some 28) rfl rfl fun K hK => ?_
      obtain ⟨c0, c1, c2, c3⟩ := HEL.out W (hS.own rfl)
      refine Runs.mk ?_
      simp only [putAll]
      go_simp
      refine hK _ _ ?_ hS ⟨fun h => absurd h (by decide), fun h => absurd h (by decide), fun h13 h16 => ((fun w => Below.refl _ w) W)⟩ _ rfl rfl
      first | rfl | go_simp | simp
    · -- 12: Op.buildSlice 22 1 #[(0, Operand.tmp 28)]
      intro l hl vs W dn e1 e2 e3 hS hR hp
      have f13 : dn 13 = false := e3 13 (by kernel_rfl)
      have f16 : dn 16 = false := e3 16 (by kernel_rfl)
      replace hS : (PushD b mb nodes n f w0.heap.size VV L k NW (dn 13) (dn 16)) W := hS
      rw [f13, f16] at hS
      have g13 : (dn 13 || ((12 : Nat) == 13)) = false := by rw [f13]; rfl
      have g16 : (dn 16 || ((12 : Nat) == 16)) = false := by rw [f16]; rfl
      refine OpGoal.imp (S1 := PushD b mb nodes n f w0.heap.size VV L k NW false false) (fun W' h => ?_) ?_
      · show (PushD b mb nodes n f w0.heap.size VV L k NW (dn 13 || ((12 : Nat) == 13)) (dn 16 || ((12 : Nat) == 16))) W'
        rw [g13, g16]
        exact h
      clear g13 g16 e1 e2 e3
      obtain rfl : l = [(5, 22), (6, 23), (7, 24), (8, 25), (9, 26), (10, 27), (11, 28)] := hl.symm.trans (by kernel_rfl)
      have p11 : vs 11 = _ := hp 11 (by decide) (by decide)
      clear hp hl
      refine opgoal (_) (some 29) rfl rfl fun K hK => ?_
      refine Runs.mk ?_
      simp only [putAll]
      go_simp
      have hb := below_alloc W (.cells #[.int .i64 px, .int .i64 py, .string pS, .bool pq] PT)
      exact hK _ _ ⟨W.heap.size, rfl, by simp, heap_alloc_new _ _⟩ (hS.below hb) ⟨(fun h => absurd h (by decide)), (fun h => absurd h (by decide)), fun h7 h10 => hb⟩ _ rfl rfl
    · -- 13: Op.call { callee := Callee.builtin Builtin.append, args := #[Operand.tmp 21, Operand.tmp 29], argTypes := #[22, 22] }
      intro l hl vs W dn e1 e2 e3 hS hR hp
      have f13 : dn 13 = false := e1
      have f16 : dn 16 = false := e3 16 (by kernel_rfl)
      replace hS : (PushD b mb nodes n f w0.heap.size VV L k NW (dn 13) (dn 16)) W := hS
      rw [f13, f16] at hS
      have g13 : (dn 13 || ((13 : Nat) == 13)) = true := by rw [f13]; rfl
      have g16 : (dn 16 || ((13 : Nat) == 16)) = false := by rw [f16]; rfl
      refine OpGoal.imp (S1 := PushD b mb nodes n f w0.heap.size VV L k NW true false) (fun W' h => ?_) ?_
      · show (PushD b mb nodes n f w0.heap.size VV L k NW (dn 13 || ((13 : Nat) == 13)) (dn 16 || ((13 : Nat) == 16))) W'
        rw [g13, g16]
        exact h
      clear g13 g16 e1 e2 e3
      obtain rfl : l = [(1, 18), (2, 19), (3, 20), (4, 21), (5, 22), (6, 23), (7, 24), (8, 25), (9, 26), (10, 27), (11, 28), (12, 29)] := hl.symm.trans (by kernel_rfl)
      have p4 : vs 4 = _ := hp 4 (by decide) (by decide)
      have p12 : (fun v W => ∃ j, v = .slice (some ⟨j, 0, none⟩) 1 1 ∧ j < W.heap.size ∧ W.heap[j]? = some (.cells #[.int .i64 px, .int .i64 py, .string pS, .bool pq] PT (0, 0))) (vs 12) W := hp 12 (by decide) (by decide)
      dsimp only at p12
      clear hp hl
      obtain ⟨j, q6, l6, b6⟩ := p12
      refine opgoal ({ dst := some 30, op := Op.call { callee := Callee.builtin Builtin.append, args := #[Operand.tmp 21, Operand.tmp 29], argTypes := #[22, 22] }, type := 22, pos := "net.go:96", after := #[{ on := 4, ground := Ground.data }, { on := 12, ground := Ground.data }], guard := none }) (some 30) rfl rfl fun K hK => ?_
      refine runs_append_src W (wanted_none rfl) (.tmp 21) (.tmp 29) (b + 1) 22 PT (.agg #[.int .i64 0, .int .i64 0, .string ⟨#[]⟩, .bool false]) 4 40 rfl (by kernel_rfl) (by kernel_rfl) rfl (by decide) (by decide) VV k L (by simp [putAll, Act.put, Act.eval, p4, hVV.out]) (hS.own rfl) (some ⟨j, 0, none⟩) 1 1 (by simp [putAll, Act.put, Act.eval, q6]) (fun h => by cases h) NW HNW.out.1 (by rw [HNW.out.2]; exact lies_block b6) (by rw [HNW.out.2]; simp [Value.oneCell']) (by have := hk256.out; omega) (by have := hS.szw; have := hS.sb; omega) ?_
      intro v' w' h1 h2 h3
      have hkk : Keep VV.ownBlock.toList W w' := keep_grown h2 _ (fun j hj _ => by simp [hj])
      exact hK _ _ ⟨h1, h3.elim (fun h => .inl h) (fun h => .inr fun k hk => (by rw [h] at hk; cases hk; exact hS.szw))⟩ (hS.app hkk) ⟨(fun _ => hkk), (fun h => absurd h (by decide)), fun h7 h10 => absurd rfl h7⟩ _ put_dfs (put_slot (by simp))
    · -- 14: Op.nilCheck (Operand.tmp 17)
      intro l hl vs W dn e1 e2 e3 hS hR hp
      have f13 : dn 13 = true := e2 13 (by kernel_rfl)
      have f16 : dn 16 = false := e3 16 (by kernel_rfl)
      replace hS : (PushD b mb nodes n f w0.heap.size VV L k NW (dn 13) (dn 16)) W := hS
      rw [f13, f16] at hS
      have g13 : (dn 13 || ((14 : Nat) == 13)) = true := by rw [f13]; rfl
      have g16 : (dn 16 || ((14 : Nat) == 16)) = false := by rw [f16]; rfl
      refine OpGoal.imp (S1 := PushD b mb nodes n f w0.heap.size VV L k NW true false) (fun W' h => ?_) ?_
      · show (PushD b mb nodes n f w0.heap.size VV L k NW (dn 13 || ((14 : Nat) == 13)) (dn 16 || ((14 : Nat) == 16))) W'
        rw [g13, g16]
        exact h
      clear g13 g16 e1 e2 e3
      obtain rfl : l = [(0, 17), (1, 18), (2, 19), (3, 20), (4, 21), (5, 22), (6, 23), (7, 24), (8, 25), (9, 26), (10, 27), (11, 28), (12, 29), (13, 30)] := hl.symm.trans (by kernel_rfl)
      have p0 : vs 0 = _ := hp 0 (by decide) (by decide)
      clear hp hl
      refine opgoal (_) (some 31) rfl rfl fun K hK => ?_
      refine Runs.mk ?_
      simp only [putAll]
      go_simp
      refine hK _ _ ?_ hS ⟨fun h => absurd h (by decide), fun h => absurd h (by decide), fun h13 h16 => ((fun w => Below.refl _ w) W)⟩ _ rfl rfl
      first | rfl | go_simp | simp
    · -- 15: Op.fieldAddr 106 (Operand.tmp 31) 1
      intro l hl vs W dn e1 e2 e3 hS hR hp
      have f13 : dn 13 = true := e2 13 (by kernel_rfl)
      have f16 : dn 16 = false := e3 16 (by kernel_rfl)
      replace hS : (PushD b mb nodes n f w0.heap.size VV L k NW (dn 13) (dn 16)) W := hS
      rw [f13, f16] at hS
      have g13 : (dn 13 || ((15 : Nat) == 13)) = true := by rw [f13]; rfl
      have g16 : (dn 16 || ((15 : Nat) == 16)) = false := by rw [f16]; rfl
      refine OpGoal.imp (S1 := PushD b mb nodes n f w0.heap.size VV L k NW true false) (fun W' h => ?_) ?_
      · show (PushD b mb nodes n f w0.heap.size VV L k NW (dn 13 || ((15 : Nat) == 13)) (dn 16 || ((15 : Nat) == 16))) W'
        rw [g13, g16]
        exact h
      clear g13 g16 e1 e2 e3
      obtain rfl : l = [(0, 17), (1, 18), (2, 19), (3, 20), (4, 21), (5, 22), (6, 23), (7, 24), (8, 25), (9, 26), (10, 27), (11, 28), (12, 29), (13, 30), (14, 31)] := hl.symm.trans (by kernel_rfl)
      have p14 : vs 14 = _ := hp 14 (by decide) (by decide)
      clear hp hl
      refine opgoal (_) (some 32) rfl rfl fun K hK => ?_
      refine Runs.mk ?_
      simp only [putAll]
      go_simp
      refine hK _ _ ?_ hS ⟨fun h => absurd h (by decide), fun h => absurd h (by decide), fun h13 h16 => ((fun w => Below.refl _ w) W)⟩ _ rfl rfl
      first | rfl | go_simp | simp
    · -- 16: Op.store 22 (Operand.tmp 32) (Operand.tmp 30)
      intro l hl vs W dn e1 e2 e3 hS hR hp
      have f13 : dn 13 = true := e2 13 (by kernel_rfl)
      have f16 : dn 16 = false := e1
      replace hS : (PushD b mb nodes n f w0.heap.size VV L k NW (dn 13) (dn 16)) W := hS
      rw [f13, f16] at hS
      have g13 : (dn 13 || ((16 : Nat) == 13)) = true := by rw [f13]; rfl
      have g16 : (dn 16 || ((16 : Nat) == 16)) = true := by rw [f16]; rfl
      refine OpGoal.imp (S1 := PushD b mb nodes n f w0.heap.size VV L k NW true true) (fun W' h => ?_) ?_
      · show (PushD b mb nodes n f w0.heap.size VV L k NW (dn 13 || ((16 : Nat) == 13)) (dn 16 || ((16 : Nat) == 16))) W'
        rw [g13, g16]
        exact h
      clear g13 g16 e1 e2 e3
      obtain rfl : l = [(0, 17), (1, 18), (2, 19), (3, 20), (4, 21), (5, 22), (6, 23), (7, 24), (8, 25), (9, 26), (10, 27), (11, 28), (12, 29), (13, 30), (14, 31), (15, 32)] := hl.symm.trans (by kernel_rfl)
      have p13 : (fun v W => W.ownsRow (b + 1) PT 4 v (k + 1) (L ++ NW) ∧ (v.ownBlock = VV.ownBlock ∨ ∀ k, v.ownBlock = some k → w0.heap.size ≤ k)) (vs 13) W := hp 13 (by decide) (by decide)
      dsimp only at p13
      have p15 : vs 15 = _ := hp 15 (by decide) (by decide)
      clear hp hl
      obtain ⟨o7, r7⟩ := p13
      refine opgoal (_) (none) rfl rfl fun K hK => ?_
      obtain ⟨A', c', q7⟩ := own_form4 o7
      rw [q7] at o7 r7
      have hc1 : W.cell? ⟨b, 2, none⟩ = some VV := (hS.blk rfl).2
      have hf1 : W.frozen? ⟨b, 2, none⟩ = false := frozen_of_row W _ _ _ _ (hS.blk rfl).1
      refine Runs.mk ?_
      simp only [putAll]
      go_simp
      exact hK undef _ trivial (hS.fin o7 r7) ⟨(fun h => absurd h (by decide)), (fun _ => (Keep.refl _ _).setCell (p := ⟨b, 2, none⟩) (.inl (by simp)) _), fun h7 h10 => absurd rfl h10⟩ _ rfl rfl
  · intro l hl vs W dn hd hS hR hp
    replace hS : (PushD b mb nodes n f w0.heap.size VV L k NW (dn 13) (dn 16)) W := hS
    rw [hd 13 (by decide), hd 16 (by decide)] at hS
    obtain rfl : l = [(0, 17), (1, 18), (2, 19), (3, 20), (4, 21), (5, 22), (6, 23), (7, 24), (8, 25), (9, 26), (10, 27), (11, 28), (12, 29), (13, 30), (14, 31), (15, 32)] := hl.symm.trans (by kernel_rfl)
    have p0 : vs 0 = _ := hp 0 (by decide) (by decide)
    have p1 : vs 1 = _ := hp 1 (by decide) (by decide)
    have p2 : vs 2 = _ := hp 2 (by decide) (by decide)
    have p3 : vs 3 = _ := hp 3 (by decide) (by decide)
    have p4 : vs 4 = _ := hp 4 (by decide) (by decide)
    have p5 : vs 5 = _ := hp 5 (by decide) (by decide)
    have p6 : vs 6 = _ := hp 6 (by decide) (by decide)
    have p7 : vs 7 = _ := hp 7 (by decide) (by decide)
    have p8 : vs 8 = _ := hp 8 (by decide) (by decide)
    have p9 : vs 9 = _ := hp 9 (by decide) (by decide)
    have p10 : vs 10 = _ := hp 10 (by decide) (by decide)
    have p11 : vs 11 = _ := hp 11 (by decide) (by decide)
    have p14 : vs 14 = _ := hp 14 (by decide) (by decide)
    have p15 : vs 15 = _ := hp 15 (by decide) (by decide)
    have p16 : (fun v W => True) (vs 16) W := hp 16 (by decide) (by decide)
    dsimp only at p16
    clear hp hl
    simp only [putAll_mk, setAll, List.setIfInBounds_toArray, List.set_cons_succ, List.set_cons_zero, p0, p1, p2, p3, p4, p5, p6, p7, p8, p9, p10, p11, p14, p15]
    have HS7 := Lib.hid hS
    have HR7 := Lib.hid hR
    clear hS hR p16
    go_wp2
    go_ret
    exact ⟨rfl, HREL.out _ HS7.out HR7.out⟩
end Go.Proofs.Ytbdcgfdchkbcnaa.Ne

/- cache.use. -/
import Derived.Test.YtbdcgfdchkbcnaaCaB
import Derived.Test.YtbdcgfdchkbcnaaD
namespace Go.Proofs.Ytbdcgfdchkbcnaa.Ca
open Go.RowKit Go.Proofs.Ytbdcgfdchkbcnaa.L Go.Proofs.Ytbdcgfdchkbcnaa.R Go.Proofs.Ytbdcgfdchkbcnaa.A Go.Proofs.Ytbdcgfdchkbcnaa.S Go.Proofs.Ytbdcgfdchkbcnaa.T Go.Proofs.Ytbdcgfdchkbcnaa.C Go.Proofs.Ytbdcgfdchkbcnaa.G Go.Proofs.Ytbdcgfdchkbcnaa.E Go.Proofs.Ytbdcgfdchkbcnaa.F
set_option linter.unusedVariables false
set_option linter.unusedSimpArgs false

abbrev CT : TypeId := 118
abbrev ET : TypeId := 77
/-- use, while it goes on: the row is cut, pushed, written into the cache. -/
structure UseS (b room g n cap sz : Nat) (L L1 L2 : List Ent) (e : Ent) (f8 f11 f14 : Bool) (W : World) : Prop where
  blk : f14 = false → W.heap[b]? = some (.cells #[.int .i64 room, .slice (some ⟨g, 0, none⟩) n cap] CT (0, 0)) ∧ W.cell? ⟨b, 1, none⟩ = some (.slice (some ⟨g, 0, none⟩) n cap)
  own : f8 = false → f11 = false → W.ownsRow (b + 1) ET 4 (.slice (some ⟨g, 0, none⟩) n cap) n (L.flatMap encE)
  own1 : f8 = true → f11 = false → W.ownsRow (b + 1) ET 4 (.slice (some ⟨g, 0, none⟩) (n - 1) cap) (n - 1) (L1.flatMap encE)
  ent : W.cell? ⟨sz, 0, none⟩ = some (.int .i64 e.1) ∧ W.cell? ⟨sz, 1, none⟩ = some (.int .i64 e.2.1) ∧ W.cell? ⟨sz, 2, none⟩ = some (.int .i64 e.2.2.1) ∧ W.cell? ⟨sz, 3, none⟩ = some (.int .i64 e.2.2.2)
  last : f14 = true → ∃ v, Ca CT ET W b room v L2 ∧ (v.ownBlock = some g ∨ ∀ k, v.ownBlock = some k → sz ≤ k)
  szw : sz ≤ W.heap.size
  szg : g < W.heap.size
  szb : b < W.heap.size
  sg : g < sz
  sb : b < sz
theorem UseS.keep {S : List Nat} {b room g n cap sz : Nat} {L L1 L2 : List Ent} {e : Ent} {f8 f11 f14 : Bool} {W W' : World} (h : UseS b room g n cap sz L L1 L2 e f8 f11 f14 W) (hk : Keep S W W') (h1 : b ∉ S) (h2 : ∀ x ∈ S, x < sz)
    (hL : f14 = true → Below W.heap.size W W') {g8 g11 : Bool} (ho : g8 = false → g11 = false → W'.ownsRow (b + 1) ET 4 (.slice (some ⟨g, 0, none⟩) n cap) n (L.flatMap encE)) (ho1 : g8 = true → g11 = false → W'.ownsRow (b + 1) ET 4 (.slice (some ⟨g, 0, none⟩) (n - 1) cap) (n - 1) (L1.flatMap encE)) : UseS b room g n cap sz L L1 L2 e g8 g11 f14 W' := by
  have hs : sz ∉ S := fun hm => by have := h2 sz hm; omega
  refine ⟨fun hf => ⟨keep_block hk (h.blk hf).1 h1, keep_cell hk (h.blk hf).2 h1⟩, ho, ho1, ?_, fun hf => ?_, Nat.le_trans h.szw hk.size, Nat.lt_of_lt_of_le h.szg hk.size, Nat.lt_of_lt_of_le h.szb hk.size, h.sg, h.sb⟩
  · obtain ⟨c0, c1, c2, c3⟩ := h.ent
    exact ⟨keep_cell hk c0 hs, keep_cell hk c1 hs, keep_cell hk c2 hs, keep_cell hk c3 hs⟩
  · obtain ⟨v, hc, hv⟩ := h.last hf
    exact ⟨v, hc.below (hL hf), hv⟩
theorem UseS.below {b room g n cap sz : Nat} {L L1 L2 : List Ent} {e : Ent} {f8 f11 f14 : Bool} {W W' : World} (h : UseS b room g n cap sz L L1 L2 e f8 f11 f14 W) (hb : Below W.heap.size W W') : UseS b room g n cap sz L L1 L2 e f8 f11 f14 W' :=
  h.keep (S := []) (.of_below hb) (by simp) (by simp) (fun _ => hb) (fun h1 h2 => own_kept (h.own h1 h2) hb) (fun h1 h2 => own_kept (h.own1 h1 h2) hb)
theorem UseS.del {b room g n cap sz i : Nat} {L L1 L2 : List Ent} {e : Ent} {W W' : World} (h : UseS b room g n cap sz L L1 L2 e false false false W) (hL : (L.flatMap encE).take (i * 4) ++ (L.flatMap encE).drop ((i + 1) * 4) = L1.flatMap encE)
    (ho : W'.ownsRow (b + 1) ET 4 (.slice (some ⟨g, 0, none⟩) (n - 1) cap) (n - 1) ((L.flatMap encE).take (i * 4) ++ (L.flatMap encE).drop ((i + 1) * 4))) (hk : Keep [g] W W') (hgb : b ≠ g) : UseS b room g n cap sz L L1 L2 e true false false W' :=
  h.keep hk (by simpa using hgb) (by intro x hx; simp at hx; subst hx; exact h.sg) (fun h => by cases h) (fun h => by cases h) (fun _ _ => hL ▸ ho)
theorem UseS.app {b room g n cap sz : Nat} {L L1 L2 : List Ent} {e : Ent} {W W' : World} (h : UseS b room g n cap sz L L1 L2 e true false false W) (hk : Keep [g] W W') (hgb : b ≠ g) : UseS b room g n cap sz L L1 L2 e true true false W' :=
  h.keep hk (by simpa using hgb) (by intro x hx; simp at hx; subst hx; exact h.sg) (fun h => by cases h) (fun h => by cases h) (fun _ h => by cases h)
theorem UseS.fin {b room g n cap sz : Nat} {L L1 L2 : List Ent} {e : Ent} {f8 : Bool} {W : World} {v : Value} (h : UseS b room g n cap sz L L1 L2 e true true false W) (h8 : f8 = true) (ho : W.ownsRow (b + 1) ET 4 v L2.length (L2.flatMap encE)) (hv : v.ownBlock = some g ∨ ∀ k, v.ownBlock = some k → sz ≤ k) :
    UseS b room g n cap sz L L1 L2 e true true true (W.setCell ⟨b, 1, none⟩ v) := by
  have hk : Keep [b] W (W.setCell ⟨b, 1, none⟩ v) := (Keep.refl _ _).setCell (p := ⟨b, 1, none⟩) (.inl (by simp)) _
  have hs : sz ∉ [b] := fun hm => by have := h.sb; simp at hm; omega
  refine ⟨(fun h => by cases h), (fun h => by cases h), (fun _ h => by cases h), ?_, fun _ => ⟨v, ⟨(Go.Proofs.Ytbdcgfdchkbcnaa.L.heap_setCell_at W b 1 _ _ _ v (h.blk rfl).1).trans rfl, own_keep ho hk (fun k hk => by have := (own_lt ho k hk).1; simp; omega)⟩, hv⟩, Nat.le_trans h.szw hk.size, Nat.lt_of_lt_of_le h.szg hk.size, Nat.lt_of_lt_of_le h.szb hk.size, h.sg, h.sb⟩
  obtain ⟨c0, c1, c2, c3⟩ := h.ent
  exact ⟨keep_cell hk c0 hs, keep_cell hk c1 hs, keep_cell hk c2 hs, keep_cell hk c3 hs⟩

/-- the last step of a call that leaves the cache with other entries. -/
def Goes (b room : Nat) (v : Value) (L' : List Ent) (w w' : World) : Prop := ∃ v', Ca CT ET w' b room v' L' ∧ Chg b v w v' w'
set_option maxHeartbeats 8000000 in
set_option maxRecDepth 100000 in
theorem use_any (b room : Nat) (v : Value) (L : List Ent) (ix : Nat) (w : World) (h : Ca CT ET w b room v L) (hix : ix < L.length) (hsm' : L.length ≤ 1000000) :
    Calls Try.prog 79 #[.pointer (some ⟨b, 0, none⟩), .int .i64 ix] w fun e w' => e = .returned (.tuple #[]) ∧ Goes b room v (L.eraseIdx ix ++ [L[ix]]) w w' := by
  obtain ⟨A, cap, rfl, hr, hA, hnone⟩ := h.rd
  obtain ⟨ab, ao, hAe, k0, k1, k2, k3⟩ := ent_at hr ix hix hix L[ix] rfl
  obtain ⟨g, hg⟩ : ∃ g, A = some ⟨g, 0, none⟩ := by
    rcases h.own.2 with ⟨hv, hn⟩ | ⟨g, cap', cur, hv, _⟩
    · omega
    · injection hv with h1 h2 h3
      exact ⟨g, h1⟩
  subst hg
  obtain ⟨rfl, rfl⟩ : g = ab ∧ 0 = ao := by injection hAe with h1; injection h1 with h1 h2; exact ⟨h1, h2⟩
  rw [Nat.zero_add] at k0 k1 k2 k3
  have hgb' : b + 1 ≤ g := hA _ rfl
  have hgl : g < w.heap.size := (h.ne g rfl).2
  have hlb : b < w.heap.size := h.lt
  have hgb : b ≠ g := by omega
  obtain ⟨n, hn⟩ : ∃ n, L.length = n := ⟨_, rfl⟩
  have hown := h.own
  have hblk := h.blk
  obtain ⟨hc0, hc1, hf0, hf1⟩ := h.cell
  rw [hn] at hc1 hown hblk hix hsm' hr
  have hsm := Lib.hid hsm'
  have hncap : n ≤ cap ∧ cap ≤ 9223372036854775807 := by obtain ⟨_, _, _, q1, q2, _⟩ := own_some hown; exact ⟨q1, q2⟩
  obtain ⟨e0, he0⟩ : ∃ e0, L[ix] = e0 := ⟨_, rfl⟩
  obtain ⟨L1, hL1⟩ : ∃ L1, L.eraseIdx ix = L1 := ⟨_, rfl⟩
  obtain ⟨L2, hL2'⟩ : ∃ L2, L1 ++ [e0] = L2 := ⟨_, rfl⟩
  have hL2 : Hid (L2 = L1 ++ [e0]) := hL2'.symm
  have hln : Hid (L1.length = n - 1) := by rw [← hL1, List.length_eraseIdx, if_pos (by omega), hn]; trivial
  have hfl : Hid ((L.flatMap encE).take (ix * 4) ++ (L.flatMap encE).drop ((ix + 1) * 4) = L1.flatMap encE) := by
    show _ = _
    rw [flat_take encE_len, flat_drop encE_len, ← List.flatMap_append, ← hL1, List.eraseIdx_eq_take_drop_succ]
  rw [he0] at k0 k1 k2 k3
  rw [hL1, he0, hL2', hn]
  obtain ⟨z1, z2, z3, z4⟩ := e0
  dsimp only at k0 k1 k2 k3
  obtain ⟨W0, hW0⟩ : ∃ W0, W0 = w.alloc (.cells #[.int .i64 z1, .int .i64 z2, .int .i64 z3, .int .i64 z4] 77) := ⟨_, rfl⟩
  have hb0 : Below w.heap.size w W0 := by rw [hW0]; exact below_alloc _ _
  have hce : ∀ j u, (#[.int .i64 z1, .int .i64 z2, .int .i64 z3, .int .i64 z4] : Array Value)[j]? = some u → W0.cell? ⟨w.heap.size, j, none⟩ = some u := fun j u hu => by rw [hW0, cell_alloc, hu]
  have hS0 : UseS b room g n cap w.heap.size L L1 L2 (z1, z2, z3, z4) false false false W0.drew := by
    have hkp : Keep [] w W0.drew := (Keep.of_below hb0).drew
    refine ⟨fun _ => ⟨keep_block hkp hblk (by simp), keep_cell hkp hc1 (by simp)⟩, fun _ _ => own_keep hown hkp (by simp), (fun h => by cases h), ⟨hce 0 _ rfl, hce 1 _ rfl, hce 2 _ rfl, hce 3 _ rfl⟩, (fun h => by cases h), hkp.size, Nat.lt_of_lt_of_le hgl hkp.size, Nat.lt_of_lt_of_le hlb hkp.size, hgl, hlb⟩
  have HFIN : Hid (∀ W, UseS b room g n cap w.heap.size L L1 L2 (z1, z2, z3, z4) true true true W → Keep [b, g] W0.drew W → Goes b room (.slice (some ⟨g, 0, none⟩) n cap) L2 w W) := Lib.hid fun W hs hk => by
    obtain ⟨v', hc, hv⟩ := hs.last rfl
    exact ⟨v', hc, ((Keep.of_below hb0).drew.trans hk).mono (by simp [Value.ownBlock]), by simpa [Value.ownBlock] using hv⟩
  have HS0 := Lib.hid hS0
  have hW0' := Lib.hid hW0
  clear hS0 hW0 hce hb0 hr hA hnone hown hblk hn hL2' hL1 he0 h hAe hsm'
  go_enter Try.func79, Try.ntmps79
  go_wp2_with fail
  rw [← hW0'.out]
  have hS0 := HS0.out
  have hwr : IntKind.i64.wrap ((ix : Int) + 1) = (ix : Int) + 1 := by rw [IntKind.wrap_i64]; omega
  refine wp_region_done (fun d => UseS b room g n cap w.heap.size L L1 L2 (z1, z2, z3, z4) (d 8) (d 11) (d 14)) (fun u v => Keep [b, g] u v) (fun k u v => (k = 8 → (fun u v => Keep [g] u v) u v) ∧ (k = 11 → (fun u v => Keep [g] u v) u v) ∧ (k = 14 → (fun u v => Keep [b] u v) u v) ∧ (¬ k = 8 → ¬ k = 11 → ¬ k = 14 → (fun u v => Below u.heap.size u v) u v)) (fun a i => match i with
      | 0 => (fun v _ => v = .pointer (some ⟨b, 0, none⟩))
      | 1 => (fun v _ => v = .pointer (some ⟨b, 0, none⟩))
      | 2 => (fun v _ => v = .pointer (some ⟨b, 0, none⟩))
      | 3 => (fun v _ => v = .pointer (some ⟨b, 1, none⟩))
      | 4 => (fun v _ => v = .slice (some ⟨g, 0, none⟩) n cap)
      | 5 => (fun v _ => v = .int .i64 (ix : Int))
      | 6 => (fun v _ => v = .int .i64 (ix : Int))
      | 7 => (fun v _ => v = .int .i64 ((ix : Int) + 1))
      | 8 => (fun v _ => v = .slice (some ⟨g, 0, none⟩) (n - 1) cap)
      | 9 => (fun v _ => v = .agg #[.int .i64 z1, .int .i64 z2, .int .i64 z3, .int .i64 z4])
      | 10 => (fun v W => ∃ j, v = .slice (some ⟨j, 0, none⟩) 1 1 ∧ j < W.heap.size ∧ W.heap[j]? = some (.cells #[.int .i64 z1, .int .i64 z2, .int .i64 z3, .int .i64 z4] 77 (0, 0)) ∧ j ≠ g ∧ j ≠ b)
      | 11 => (fun v W => W.ownsRow (b + 1) 77 4 v L2.length (L2.flatMap encE) ∧ (v.ownBlock = some g ∨ ∀ k, v.ownBlock = some k → w.heap.size ≤ k))
      | 12 => (fun v _ => v = .pointer (some ⟨b, 0, none⟩))
      | 13 => (fun v _ => v = .pointer (some ⟨b, 1, none⟩))
      | 14 => (fun v W => True)
      | _ => (fun _ _ => True)) #[0, 0, 2, 6, 14, 0, 0, 64, 254, 0, 512, 2046, 4095, 8191, 16383] #[0, 0, 2, 4, 8, 0, 0, 64, 176, 0, 512, 1280, 1, 4096, 10240] 29695 (by kernel_rfl) 15 rfl (fun m hm => by subst hm; kernel_rfl) (by kernel_rfl) (fun w => Keep.refl _ w) (fun u v w h1 h2 => h1.trans h2) ?_ ?_ (hS0) ?_ ?_
  · intro k u v hk hr
    by_cases hs8 : k = 8
    · have h := hr.1 hs8; exact h.mono (by simp)
    by_cases hs11 : k = 11
    · have h := hr.2.1 hs11; exact h.mono (by simp)
    by_cases hs14 : k = 14
    · have h := hr.2.2.1 hs14; exact h.mono (by simp)
    have h := hr.2.2.2 hs8 hs11 hs14; exact Keep.of_below h
  · intro i hi
    rcases (by omega : i = 0 ∨ i = 1 ∨ i = 2 ∨ i = 3 ∨ i = 4 ∨ i = 5 ∨ i = 6 ∨ i = 7 ∨ i = 8 ∨ i = 9 ∨ i = 10 ∨ i = 11 ∨ i = 12 ∨ i = 13 ∨ i = 14) with rfl | rfl | rfl | rfl | rfl | rfl | rfl | rfl | rfl | rfl | rfl | rfl | rfl | rfl | rfl
    · intro k hk y hy hyt v w w' h hr
      exact h
    · intro k hk y hy hyt v w w' h hr
      exact h
    · intro k hk y hy hyt v w w' h hr
      exact h
    · intro k hk y hy hyt v w w' h hr
      exact h
    · intro k hk y hy hyt v w w' h hr
      exact h
    · intro k hk y hy hyt v w w' h hr
      exact h
    · intro k hk y hy hyt v w w' h hr
      exact h
    · intro k hk y hy hyt v w w' h hr
      exact h
    · intro k hk y hy hyt v w w' h hr
      exact h
    · intro k hk y hy hyt v w w' h hr
      exact h
    · intro k hk y hy hyt v w w' h hr
      by_cases hs8 : k = 8
      · have hr0 := hr.1 hs8
        subst hs8
        exact (fun (h : _) (hr : _) => by obtain ⟨j, h1, h2, h3, h4, h5⟩ := h; exact ⟨j, h1, Nat.lt_of_lt_of_le h2 hr.size, keep_block hr h3 (by simpa using h4), h4, h5⟩) h hr0
      by_cases hs11 : k = 11
      · have hr0 := hr.2.1 hs11
        subst hs11
        exact absurd (hy.trans hyt) (ne_true_of_eq_false (by kernel_rfl))
      by_cases hs14 : k = 14
      · have hr0 := hr.2.2.1 hs14
        subst hs14
        exact absurd (hy.trans hyt) (ne_true_of_eq_false (by kernel_rfl))
      have hr := hr.2.2.2 hs8 hs11 hs14
      obtain ⟨j, h1, h2, h3, h4⟩ := h; exact ⟨j, h1, Nat.lt_of_lt_of_le h2 hr.size, (hr.block j h2).trans h3, h4⟩
    · intro k hk y hy hyt v w w' h hr
      by_cases hs8 : k = 8
      · have hr0 := hr.1 hs8
        subst hs8
        exact absurd (hy.trans hyt) (ne_true_of_eq_false (by kernel_rfl))
      by_cases hs11 : k = 11
      · have hr0 := hr.2.1 hs11
        subst hs11
        exact absurd (hy.trans hyt) (ne_true_of_eq_false (by kernel_rfl))
      by_cases hs14 : k = 14
      · have hr0 := hr.2.2.1 hs14
        subst hs14
        exact absurd (hy.trans hyt) (ne_true_of_eq_false (by kernel_rfl))
      have hr := hr.2.2.2 hs8 hs11 hs14
      exact ⟨own_kept h.1 hr, h.2⟩
    · intro k hk y hy hyt v w w' h hr
      exact h
    · intro k hk y hy hyt v w w' h hr
      exact h
    · intro k hk y hy hyt v w w' h hr
      by_cases hs8 : k = 8
      · have hr0 := hr.1 hs8
        subst hs8
        exact absurd (hy.trans hyt) (ne_true_of_eq_false (by kernel_rfl))
      by_cases hs11 : k = 11
      · have hr0 := hr.2.1 hs11
        subst hs11
        exact absurd (hy.trans hyt) (ne_true_of_eq_false (by kernel_rfl))
      by_cases hs14 : k = 14
      · have hr0 := hr.2.2.1 hs14
        subst hs14
        exact absurd (hy.trans hyt) (ne_true_of_eq_false (by kernel_rfl))
      have hr := hr.2.2.2 hs8 hs11 hs14
      exact trivial
  · intro i hi
    rcases (by omega : i = 0 ∨ i = 1 ∨ i = 2 ∨ i = 3 ∨ i = 4 ∨ i = 5 ∨ i = 6 ∨ i = 7 ∨ i = 8 ∨ i = 9 ∨ i = 10 ∨ i = 11 ∨ i = 12 ∨ i = 13 ∨ i = 14) with rfl | rfl | rfl | rfl | rfl | rfl | rfl | rfl | rfl | rfl | rfl | rfl | rfl | rfl | rfl
    · -- 0: Op.move (Operand.tmp 0)
      intro l hl vs W dn e1 e2 e3 hS hR hp
      have f8 : dn 8 = dn 8 := rfl
      have f11 : dn 11 = dn 11 := rfl
      have f14 : dn 14 = false := e3 14 (by kernel_rfl)
      replace hS : (UseS b room g n cap w.heap.size L L1 L2 (z1, z2, z3, z4) (dn 8) (dn 11) (dn 14)) W := hS
      rw [f14] at hS
      have g8 : (dn 8 || ((0 : Nat) == 8)) = dn 8 := Bool.or_false _
      have g11 : (dn 11 || ((0 : Nat) == 11)) = dn 11 := Bool.or_false _
      have g14 : (dn 14 || ((0 : Nat) == 14)) = false := by rw [f14]; rfl
      refine OpGoal.imp (S1 := UseS b room g n cap w.heap.size L L1 L2 (z1, z2, z3, z4) (dn 8) (dn 11) false) (fun W' h => ?_) ?_
      · show (UseS b room g n cap w.heap.size L L1 L2 (z1, z2, z3, z4) (dn 8 || ((0 : Nat) == 8)) (dn 11 || ((0 : Nat) == 11)) (dn 14 || ((0 : Nat) == 14))) W'
        rw [g8, g11, g14]
        exact h
      clear g8 g11 g14 e1 e2 e3
      obtain rfl : l = [] := hl.symm.trans (by kernel_rfl)
      clear hp hl
      refine opgoal (_) (some 12) rfl rfl fun K hK => ?_
      refine Runs.mk ?_
      simp only [putAll]
      go_simp
      refine hK _ _ ?_ hS ⟨fun h => absurd h (by decide), fun h => absurd h (by decide), fun h => absurd h (by decide), fun h8 h11 h14 => ((fun w => Below.refl _ w) W)⟩ _ rfl rfl
      first | rfl | go_simp | simp
    · -- 1: Op.move (Operand.tmp 0)
      intro l hl vs W dn e1 e2 e3 hS hR hp
      have f8 : dn 8 = false := e3 8 (by kernel_rfl)
      have f11 : dn 11 = false := e3 11 (by kernel_rfl)
      have f14 : dn 14 = false := e3 14 (by kernel_rfl)
      replace hS : (UseS b room g n cap w.heap.size L L1 L2 (z1, z2, z3, z4) (dn 8) (dn 11) (dn 14)) W := hS
      rw [f8, f11, f14] at hS
      have g8 : (dn 8 || ((1 : Nat) == 8)) = false := by rw [f8]; rfl
      have g11 : (dn 11 || ((1 : Nat) == 11)) = false := by rw [f11]; rfl
      have g14 : (dn 14 || ((1 : Nat) == 14)) = false := by rw [f14]; rfl
      refine OpGoal.imp (S1 := UseS b room g n cap w.heap.size L L1 L2 (z1, z2, z3, z4) false false false) (fun W' h => ?_) ?_
      · show (UseS b room g n cap w.heap.size L L1 L2 (z1, z2, z3, z4) (dn 8 || ((1 : Nat) == 8)) (dn 11 || ((1 : Nat) == 11)) (dn 14 || ((1 : Nat) == 14))) W'
        rw [g8, g11, g14]
        exact h
      clear g8 g11 g14 e1 e2 e3
      obtain rfl : l = [] := hl.symm.trans (by kernel_rfl)
      clear hp hl
      refine opgoal (_) (some 13) rfl rfl fun K hK => ?_
      refine Runs.mk ?_
      simp only [putAll]
      go_simp
      refine hK _ _ ?_ hS ⟨fun h => absurd h (by decide), fun h => absurd h (by decide), fun h => absurd h (by decide), fun h8 h11 h14 => ((fun w => Below.refl _ w) W)⟩ _ rfl rfl
      first | rfl | go_simp | simp
    · -- 2: Op.nilCheck (Operand.tmp 13)
      intro l hl vs W dn e1 e2 e3 hS hR hp
      have f8 : dn 8 = false := e3 8 (by kernel_rfl)
      have f11 : dn 11 = false := e3 11 (by kernel_rfl)
      have f14 : dn 14 = false := e3 14 (by kernel_rfl)
      replace hS : (UseS b room g n cap w.heap.size L L1 L2 (z1, z2, z3, z4) (dn 8) (dn 11) (dn 14)) W := hS
      rw [f8, f11, f14] at hS
      have g8 : (dn 8 || ((2 : Nat) == 8)) = false := by rw [f8]; rfl
      have g11 : (dn 11 || ((2 : Nat) == 11)) = false := by rw [f11]; rfl
      have g14 : (dn 14 || ((2 : Nat) == 14)) = false := by rw [f14]; rfl
      refine OpGoal.imp (S1 := UseS b room g n cap w.heap.size L L1 L2 (z1, z2, z3, z4) false false false) (fun W' h => ?_) ?_
      · show (UseS b room g n cap w.heap.size L L1 L2 (z1, z2, z3, z4) (dn 8 || ((2 : Nat) == 8)) (dn 11 || ((2 : Nat) == 11)) (dn 14 || ((2 : Nat) == 14))) W'
        rw [g8, g11, g14]
        exact h
      clear g8 g11 g14 e1 e2 e3
      obtain rfl : l = [(1, 13)] := hl.symm.trans (by kernel_rfl)
      have p1 : vs 1 = _ := hp 1 (by decide) (by decide)
      clear hp hl
      refine opgoal (_) (some 14) rfl rfl fun K hK => ?_
      refine Runs.mk ?_
      simp only [putAll]
      go_simp
      refine hK _ _ ?_ hS ⟨fun h => absurd h (by decide), fun h => absurd h (by decide), fun h => absurd h (by decide), fun h8 h11 h14 => ((fun w => Below.refl _ w) W)⟩ _ rfl rfl
      first | rfl | go_simp | simp
    · -- 3: Op.fieldAddr 118 (Operand.tmp 14) 1
      intro l hl vs W dn e1 e2 e3 hS hR hp
      have f8 : dn 8 = false := e3 8 (by kernel_rfl)
      have f11 : dn 11 = false := e3 11 (by kernel_rfl)
      have f14 : dn 14 = false := e3 14 (by kernel_rfl)
      replace hS : (UseS b room g n cap w.heap.size L L1 L2 (z1, z2, z3, z4) (dn 8) (dn 11) (dn 14)) W := hS
      rw [f8, f11, f14] at hS
      have g8 : (dn 8 || ((3 : Nat) == 8)) = false := by rw [f8]; rfl
      have g11 : (dn 11 || ((3 : Nat) == 11)) = false := by rw [f11]; rfl
      have g14 : (dn 14 || ((3 : Nat) == 14)) = false := by rw [f14]; rfl
      refine OpGoal.imp (S1 := UseS b room g n cap w.heap.size L L1 L2 (z1, z2, z3, z4) false false false) (fun W' h => ?_) ?_
      · show (UseS b room g n cap w.heap.size L L1 L2 (z1, z2, z3, z4) (dn 8 || ((3 : Nat) == 8)) (dn 11 || ((3 : Nat) == 11)) (dn 14 || ((3 : Nat) == 14))) W'
        rw [g8, g11, g14]
        exact h
      clear g8 g11 g14 e1 e2 e3
      obtain rfl : l = [(1, 13), (2, 14)] := hl.symm.trans (by kernel_rfl)
      have p2 : vs 2 = _ := hp 2 (by decide) (by decide)
      clear hp hl
      refine opgoal (_) (some 15) rfl rfl fun K hK => ?_
      refine Runs.mk ?_
      simp only [putAll]
      go_simp
      refine hK _ _ ?_ hS ⟨fun h => absurd h (by decide), fun h => absurd h (by decide), fun h => absurd h (by decide), fun h8 h11 h14 => ((fun w => Below.refl _ w) W)⟩ _ rfl rfl
      first | rfl | go_simp | simp
    · -- 4: Op.load 80 (Operand.tmp 15)
      intro l hl vs W dn e1 e2 e3 hS hR hp
      have f8 : dn 8 = false := e3 8 (by kernel_rfl)
      have f11 : dn 11 = false := e3 11 (by kernel_rfl)
      have f14 : dn 14 = false := e3 14 (by kernel_rfl)
      replace hS : (UseS b room g n cap w.heap.size L L1 L2 (z1, z2, z3, z4) (dn 8) (dn 11) (dn 14)) W := hS
      rw [f8, f11, f14] at hS
      have g8 : (dn 8 || ((4 : Nat) == 8)) = false := by rw [f8]; rfl
      have g11 : (dn 11 || ((4 : Nat) == 11)) = false := by rw [f11]; rfl
      have g14 : (dn 14 || ((4 : Nat) == 14)) = false := by rw [f14]; rfl
      refine OpGoal.imp (S1 := UseS b room g n cap w.heap.size L L1 L2 (z1, z2, z3, z4) false false false) (fun W' h => ?_) ?_
      · show (UseS b room g n cap w.heap.size L L1 L2 (z1, z2, z3, z4) (dn 8 || ((4 : Nat) == 8)) (dn 11 || ((4 : Nat) == 11)) (dn 14 || ((4 : Nat) == 14))) W'
        rw [g8, g11, g14]
        exact h
      clear g8 g11 g14 e1 e2 e3
      obtain rfl : l = [(1, 13), (2, 14), (3, 15)] := hl.symm.trans (by kernel_rfl)
      have p3 : vs 3 = _ := hp 3 (by decide) (by decide)
      clear hp hl
      refine opgoal (_) (some 16) rfl rfl fun K hK => ?_
      have hc1 : W.cell? ⟨b, 1, none⟩ = some (.slice (some ⟨g, 0, none⟩) n cap) := (hS.blk rfl).2
      refine Runs.mk ?_
      simp only [putAll]
      go_simp
      refine hK _ _ ?_ hS ⟨fun h => absurd h (by decide), fun h => absurd h (by decide), fun h => absurd h (by decide), fun h8 h11 h14 => ((fun w => Below.refl _ w) W)⟩ _ rfl rfl
      first | rfl | go_simp | simp
    · -- 5: Op.move (Operand.tmp 1)
      intro l hl vs W dn e1 e2 e3 hS hR hp
      have f8 : dn 8 = false := e3 8 (by kernel_rfl)
      have f11 : dn 11 = false := e3 11 (by kernel_rfl)
      have f14 : dn 14 = false := e3 14 (by kernel_rfl)
      replace hS : (UseS b room g n cap w.heap.size L L1 L2 (z1, z2, z3, z4) (dn 8) (dn 11) (dn 14)) W := hS
      rw [f8, f11, f14] at hS
      have g8 : (dn 8 || ((5 : Nat) == 8)) = false := by rw [f8]; rfl
      have g11 : (dn 11 || ((5 : Nat) == 11)) = false := by rw [f11]; rfl
      have g14 : (dn 14 || ((5 : Nat) == 14)) = false := by rw [f14]; rfl
      refine OpGoal.imp (S1 := UseS b room g n cap w.heap.size L L1 L2 (z1, z2, z3, z4) false false false) (fun W' h => ?_) ?_
      · show (UseS b room g n cap w.heap.size L L1 L2 (z1, z2, z3, z4) (dn 8 || ((5 : Nat) == 8)) (dn 11 || ((5 : Nat) == 11)) (dn 14 || ((5 : Nat) == 14))) W'
        rw [g8, g11, g14]
        exact h
      clear g8 g11 g14 e1 e2 e3
      obtain rfl : l = [] := hl.symm.trans (by kernel_rfl)
      clear hp hl
      refine opgoal (_) (some 17) rfl rfl fun K hK => ?_
      refine Runs.mk ?_
      simp only [putAll]
      go_simp
      refine hK _ _ ?_ hS ⟨fun h => absurd h (by decide), fun h => absurd h (by decide), fun h => absurd h (by decide), fun h8 h11 h14 => ((fun w => Below.refl _ w) W)⟩ _ rfl rfl
      first | rfl | go_simp | simp
    · -- 6: Op.move (Operand.tmp 1)
      intro l hl vs W dn e1 e2 e3 hS hR hp
      have f8 : dn 8 = false := e3 8 (by kernel_rfl)
      have f11 : dn 11 = false := e3 11 (by kernel_rfl)
      have f14 : dn 14 = false := e3 14 (by kernel_rfl)
      replace hS : (UseS b room g n cap w.heap.size L L1 L2 (z1, z2, z3, z4) (dn 8) (dn 11) (dn 14)) W := hS
      rw [f8, f11, f14] at hS
      have g8 : (dn 8 || ((6 : Nat) == 8)) = false := by rw [f8]; rfl
      have g11 : (dn 11 || ((6 : Nat) == 11)) = false := by rw [f11]; rfl
      have g14 : (dn 14 || ((6 : Nat) == 14)) = false := by rw [f14]; rfl
      refine OpGoal.imp (S1 := UseS b room g n cap w.heap.size L L1 L2 (z1, z2, z3, z4) false false false) (fun W' h => ?_) ?_
      · show (UseS b room g n cap w.heap.size L L1 L2 (z1, z2, z3, z4) (dn 8 || ((6 : Nat) == 8)) (dn 11 || ((6 : Nat) == 11)) (dn 14 || ((6 : Nat) == 14))) W'
        rw [g8, g11, g14]
        exact h
      clear g8 g11 g14 e1 e2 e3
      obtain rfl : l = [] := hl.symm.trans (by kernel_rfl)
      clear hp hl
      refine opgoal (_) (some 18) rfl rfl fun K hK => ?_
      refine Runs.mk ?_
      simp only [putAll]
      go_simp
      refine hK _ _ ?_ hS ⟨fun h => absurd h (by decide), fun h => absurd h (by decide), fun h => absurd h (by decide), fun h8 h11 h14 => ((fun w => Below.refl _ w) W)⟩ _ rfl rfl
      first | rfl | go_simp | simp
    · -- 7: Op.binOp BinOp.add 3 (Operand.tmp 18) (Operand.const (Value.int IntKind.i64 1)) 3
      intro l hl vs W dn e1 e2 e3 hS hR hp
      have f8 : dn 8 = false := e3 8 (by kernel_rfl)
      have f11 : dn 11 = false := e3 11 (by kernel_rfl)
      have f14 : dn 14 = false := e3 14 (by kernel_rfl)
      replace hS : (UseS b room g n cap w.heap.size L L1 L2 (z1, z2, z3, z4) (dn 8) (dn 11) (dn 14)) W := hS
      rw [f8, f11, f14] at hS
      have g8 : (dn 8 || ((7 : Nat) == 8)) = false := by rw [f8]; rfl
      have g11 : (dn 11 || ((7 : Nat) == 11)) = false := by rw [f11]; rfl
      have g14 : (dn 14 || ((7 : Nat) == 14)) = false := by rw [f14]; rfl
      refine OpGoal.imp (S1 := UseS b room g n cap w.heap.size L L1 L2 (z1, z2, z3, z4) false false false) (fun W' h => ?_) ?_
      · show (UseS b room g n cap w.heap.size L L1 L2 (z1, z2, z3, z4) (dn 8 || ((7 : Nat) == 8)) (dn 11 || ((7 : Nat) == 11)) (dn 14 || ((7 : Nat) == 14))) W'
        rw [g8, g11, g14]
        exact h
      clear g8 g11 g14 e1 e2 e3
      obtain rfl : l = [(6, 18)] := hl.symm.trans (by kernel_rfl)
      have p6 : vs 6 = _ := hp 6 (by decide) (by decide)
      clear hp hl
      refine opgoal (_) (some 19) rfl rfl fun K hK => ?_
      refine Runs.mk ?_
      simp only [putAll]
      go_simp
      refine hK _ _ ?_ hS ⟨fun h => absurd h (by decide), fun h => absurd h (by decide), fun h => absurd h (by decide), fun h8 h11 h14 => ((fun w => Below.refl _ w) W)⟩ _ rfl rfl
      first | rfl | go_simp | simp
    · -- 8: Op.call { callee := Callee.value (Operand.func 86), args := #[Operand.tmp 16, Operand.tmp 17, Operand.tmp 19], argTypes := #[80, 3, 3] }
      intro l hl vs W dn e1 e2 e3 hS hR hp
      have f8 : dn 8 = false := e1
      have f11 : dn 11 = false := e3 11 (by kernel_rfl)
      have f14 : dn 14 = false := e3 14 (by kernel_rfl)
      replace hS : (UseS b room g n cap w.heap.size L L1 L2 (z1, z2, z3, z4) (dn 8) (dn 11) (dn 14)) W := hS
      rw [f8, f11, f14] at hS
      have g8 : (dn 8 || ((8 : Nat) == 8)) = true := by rw [f8]; rfl
      have g11 : (dn 11 || ((8 : Nat) == 11)) = false := by rw [f11]; rfl
      have g14 : (dn 14 || ((8 : Nat) == 14)) = false := by rw [f14]; rfl
      refine OpGoal.imp (S1 := UseS b room g n cap w.heap.size L L1 L2 (z1, z2, z3, z4) true false false) (fun W' h => ?_) ?_
      · show (UseS b room g n cap w.heap.size L L1 L2 (z1, z2, z3, z4) (dn 8 || ((8 : Nat) == 8)) (dn 11 || ((8 : Nat) == 11)) (dn 14 || ((8 : Nat) == 14))) W'
        rw [g8, g11, g14]
        exact h
      clear g8 g11 g14 e1 e2 e3
      obtain rfl : l = [(1, 13), (2, 14), (3, 15), (4, 16), (5, 17), (6, 18), (7, 19)] := hl.symm.trans (by kernel_rfl)
      have p4 : vs 4 = _ := hp 4 (by decide) (by decide)
      have p5 : vs 5 = _ := hp 5 (by decide) (by decide)
      have p7 : vs 7 = _ := hp 7 (by decide) (by decide)
      clear hp hl
      refine opgoal (_) (some 20) rfl rfl fun K hK => ?_
      refine Runs.mk ?_
      simp only [putAll]
      go_simp
      refine (delete_any (b + 1) g cap n ix (L.flatMap encE) W (hS.own rfl rfl) hix one_enc).mono ?_
      rintro e w' ⟨rfl, ho, hk⟩
      go_simp
      exact hK _ _ rfl (hS.del hfl.out ho hk hgb) ⟨fun _ => hk, fun h => absurd h (by decide), fun h => absurd h (by decide), fun h8 h11 h14 => absurd rfl h8⟩ _ rfl rfl
    · -- 9: Op.load 77 (Operand.tmp 4)
      intro l hl vs W dn e1 e2 e3 hS hR hp
      have f8 : dn 8 = dn 8 := rfl
      have f11 : dn 11 = false := e3 11 (by kernel_rfl)
      have f14 : dn 14 = false := e3 14 (by kernel_rfl)
      replace hS : (UseS b room g n cap w.heap.size L L1 L2 (z1, z2, z3, z4) (dn 8) (dn 11) (dn 14)) W := hS
      rw [f11, f14] at hS
      have g8 : (dn 8 || ((9 : Nat) == 8)) = dn 8 := Bool.or_false _
      have g11 : (dn 11 || ((9 : Nat) == 11)) = false := by rw [f11]; rfl
      have g14 : (dn 14 || ((9 : Nat) == 14)) = false := by rw [f14]; rfl
      refine OpGoal.imp (S1 := UseS b room g n cap w.heap.size L L1 L2 (z1, z2, z3, z4) (dn 8) false false) (fun W' h => ?_) ?_
      · show (UseS b room g n cap w.heap.size L L1 L2 (z1, z2, z3, z4) (dn 8 || ((9 : Nat) == 8)) (dn 11 || ((9 : Nat) == 11)) (dn 14 || ((9 : Nat) == 14))) W'
        rw [g8, g11, g14]
        exact h
      clear g8 g11 g14 e1 e2 e3
      obtain rfl : l = [] := hl.symm.trans (by kernel_rfl)
      clear hp hl
      refine opgoal (_) (some 21) rfl rfl fun K hK => ?_
      obtain ⟨c0, c1, c2, c3⟩ := hS.ent
      dsimp only at c0 c1 c2 c3
      refine Runs.mk ?_
      simp only [putAll]
      go_simp
      refine hK _ _ ?_ hS ⟨fun h => absurd h (by decide), fun h => absurd h (by decide), fun h => absurd h (by decide), fun h8 h11 h14 => ((fun w => Below.refl _ w) W)⟩ _ rfl rfl
      first | rfl | go_simp | simp
    · -- 10: Op.buildSlice 80 1 #[(0, Operand.tmp 21)]
      intro l hl vs W dn e1 e2 e3 hS hR hp
      have f8 : dn 8 = dn 8 := rfl
      have f11 : dn 11 = false := e3 11 (by kernel_rfl)
      have f14 : dn 14 = false := e3 14 (by kernel_rfl)
      replace hS : (UseS b room g n cap w.heap.size L L1 L2 (z1, z2, z3, z4) (dn 8) (dn 11) (dn 14)) W := hS
      rw [f11, f14] at hS
      have g8 : (dn 8 || ((10 : Nat) == 8)) = dn 8 := Bool.or_false _
      have g11 : (dn 11 || ((10 : Nat) == 11)) = false := by rw [f11]; rfl
      have g14 : (dn 14 || ((10 : Nat) == 14)) = false := by rw [f14]; rfl
      refine OpGoal.imp (S1 := UseS b room g n cap w.heap.size L L1 L2 (z1, z2, z3, z4) (dn 8) false false) (fun W' h => ?_) ?_
      · show (UseS b room g n cap w.heap.size L L1 L2 (z1, z2, z3, z4) (dn 8 || ((10 : Nat) == 8)) (dn 11 || ((10 : Nat) == 11)) (dn 14 || ((10 : Nat) == 14))) W'
        rw [g8, g11, g14]
        exact h
      clear g8 g11 g14 e1 e2 e3
      obtain rfl : l = [(9, 21)] := hl.symm.trans (by kernel_rfl)
      have p9 : vs 9 = _ := hp 9 (by decide) (by decide)
      clear hp hl
      refine opgoal (_) (some 22) rfl rfl fun K hK => ?_
      refine Runs.mk ?_
      simp only [putAll]
      go_simp
      have hb := below_alloc W (.cells #[.int .i64 z1, .int .i64 z2, .int .i64 z3, .int .i64 z4] 77)
      exact hK _ _ ⟨W.heap.size, rfl, by simp, heap_alloc_new _ _, by have := hS.szg; omega, by have := hS.szb; omega⟩ (hS.below hb) ⟨fun h => absurd h (by decide), fun h => absurd h (by decide), fun h => absurd h (by decide), fun h8 h11 h14 => hb⟩ _ rfl rfl
    · -- 11: Op.call { callee := Callee.builtin Builtin.append, args := #[Operand.tmp 20, Operand.tmp 22], argTypes := #[80, 80] }
      intro l hl vs W dn e1 e2 e3 hS hR hp
      have f8 : dn 8 = true := e2 8 (by kernel_rfl)
      have f11 : dn 11 = false := e1
      have f14 : dn 14 = false := e3 14 (by kernel_rfl)
      replace hS : (UseS b room g n cap w.heap.size L L1 L2 (z1, z2, z3, z4) (dn 8) (dn 11) (dn 14)) W := hS
      rw [f8, f11, f14] at hS
      have g8 : (dn 8 || ((11 : Nat) == 8)) = true := by rw [f8]; rfl
      have g11 : (dn 11 || ((11 : Nat) == 11)) = true := by rw [f11]; rfl
      have g14 : (dn 14 || ((11 : Nat) == 14)) = false := by rw [f14]; rfl
      refine OpGoal.imp (S1 := UseS b room g n cap w.heap.size L L1 L2 (z1, z2, z3, z4) true true false) (fun W' h => ?_) ?_
      · show (UseS b room g n cap w.heap.size L L1 L2 (z1, z2, z3, z4) (dn 8 || ((11 : Nat) == 8)) (dn 11 || ((11 : Nat) == 11)) (dn 14 || ((11 : Nat) == 14))) W'
        rw [g8, g11, g14]
        exact h
      clear g8 g11 g14 e1 e2 e3
      obtain rfl : l = [(1, 13), (2, 14), (3, 15), (4, 16), (5, 17), (6, 18), (7, 19), (8, 20), (9, 21), (10, 22)] := hl.symm.trans (by kernel_rfl)
      have p8 : vs 8 = _ := hp 8 (by decide) (by decide)
      have p10 : (fun v W => ∃ j, v = .slice (some ⟨j, 0, none⟩) 1 1 ∧ j < W.heap.size ∧ W.heap[j]? = some (.cells #[.int .i64 z1, .int .i64 z2, .int .i64 z3, .int .i64 z4] 77 (0, 0)) ∧ j ≠ g ∧ j ≠ b) (vs 10) W := hp 10 (by decide) (by decide)
      dsimp only at p10
      clear hp hl
      obtain ⟨j, q10, l10, b10, _, _⟩ := p10
      refine opgoal ({ dst := some 23, op := Op.call { callee := Callee.builtin Builtin.append, args := #[Operand.tmp 20, Operand.tmp 22], argTypes := #[80, 80] }, type := 80, pos := "cache.go:38", after := #[{ on := 8, ground := Ground.data }, { on := 10, ground := Ground.data }, { on := 8, ground := Ground.chain }], guard := none }) (some 23) rfl rfl fun K hK => ?_
      have hn1 : L1.length = n - 1 := hln.out
      refine runs_append_src W (wanted_none rfl) (.tmp 20) (.tmp 22) (b + 1) 80 77 (.agg #[.int .i64 0, .int .i64 0, .int .i64 0, .int .i64 0]) 4 32 rfl (by kernel_rfl) (by kernel_rfl) rfl (by decide) (by decide) (.slice (some ⟨g, 0, none⟩) (n - 1) cap) (n - 1) (L1.flatMap encE) (by simp [putAll, Act.put, Act.eval, p8]) (hS.own1 rfl rfl) (some ⟨j, 0, none⟩) 1 1 (by simp [putAll, Act.put, Act.eval, q10]) (fun h => by cases h) [.int .i64 z1, .int .i64 z2, .int .i64 z3, .int .i64 z4] rfl (lies_block b10) (by simp [Value.oneCell']) (by have := hsm.out; omega) (by have := hS.szb; omega) ?_
      intro v' w' h1 h2 h3
      have hkk : Keep [g] W w' := keep_grown h2 _ (fun j hj _ => by simp [Value.ownBlock] at hj; simp [hj])
      have h1' : w'.ownsRow (b + 1) 77 4 v' L2.length (L2.flatMap encE) := by
        have e1 := hL2.out
        rw [e1, List.flatMap_append, List.length_append, hn1]
        exact h1
      exact hK _ _ ⟨h1', h3.elim (fun h => .inl h) (fun h => .inr fun k hk => (by rw [h] at hk; cases hk; exact hS.szw))⟩ (hS.app hkk hgb) ⟨(fun h => absurd h (by decide)), (fun _ => hkk), (fun h => absurd h (by decide)), fun h8 h11 h14 => absurd rfl h11⟩ _ put_dfs (put_slot (by simp))
    · -- 12: Op.nilCheck (Operand.tmp 12)
      intro l hl vs W dn e1 e2 e3 hS hR hp
      have f8 : dn 8 = true := e2 8 (by kernel_rfl)
      have f11 : dn 11 = true := e2 11 (by kernel_rfl)
      have f14 : dn 14 = false := e3 14 (by kernel_rfl)
      replace hS : (UseS b room g n cap w.heap.size L L1 L2 (z1, z2, z3, z4) (dn 8) (dn 11) (dn 14)) W := hS
      rw [f8, f11, f14] at hS
      have g8 : (dn 8 || ((12 : Nat) == 8)) = true := by rw [f8]; rfl
      have g11 : (dn 11 || ((12 : Nat) == 11)) = true := by rw [f11]; rfl
      have g14 : (dn 14 || ((12 : Nat) == 14)) = false := by rw [f14]; rfl
      refine OpGoal.imp (S1 := UseS b room g n cap w.heap.size L L1 L2 (z1, z2, z3, z4) true true false) (fun W' h => ?_) ?_
      · show (UseS b room g n cap w.heap.size L L1 L2 (z1, z2, z3, z4) (dn 8 || ((12 : Nat) == 8)) (dn 11 || ((12 : Nat) == 11)) (dn 14 || ((12 : Nat) == 14))) W'
        rw [g8, g11, g14]
        exact h
      clear g8 g11 g14 e1 e2 e3
      obtain rfl : l = [(0, 12), (1, 13), (2, 14), (3, 15), (4, 16), (5, 17), (6, 18), (7, 19), (8, 20), (9, 21), (10, 22), (11, 23)] := hl.symm.trans (by kernel_rfl)
      have p0 : vs 0 = _ := hp 0 (by decide) (by decide)
      clear hp hl
      refine opgoal (_) (some 24) rfl rfl fun K hK => ?_
      refine Runs.mk ?_
      simp only [putAll]
      go_simp
      refine hK _ _ ?_ hS ⟨fun h => absurd h (by decide), fun h => absurd h (by decide), fun h => absurd h (by decide), fun h8 h11 h14 => ((fun w => Below.refl _ w) W)⟩ _ rfl rfl
      first | rfl | go_simp | simp
    · -- 13: Op.fieldAddr 118 (Operand.tmp 24) 1
      intro l hl vs W dn e1 e2 e3 hS hR hp
      have f8 : dn 8 = true := e2 8 (by kernel_rfl)
      have f11 : dn 11 = true := e2 11 (by kernel_rfl)
      have f14 : dn 14 = false := e3 14 (by kernel_rfl)
      replace hS : (UseS b room g n cap w.heap.size L L1 L2 (z1, z2, z3, z4) (dn 8) (dn 11) (dn 14)) W := hS
      rw [f8, f11, f14] at hS
      have g8 : (dn 8 || ((13 : Nat) == 8)) = true := by rw [f8]; rfl
      have g11 : (dn 11 || ((13 : Nat) == 11)) = true := by rw [f11]; rfl
      have g14 : (dn 14 || ((13 : Nat) == 14)) = false := by rw [f14]; rfl
      refine OpGoal.imp (S1 := UseS b room g n cap w.heap.size L L1 L2 (z1, z2, z3, z4) true true false) (fun W' h => ?_) ?_
      · show (UseS b room g n cap w.heap.size L L1 L2 (z1, z2, z3, z4) (dn 8 || ((13 : Nat) == 8)) (dn 11 || ((13 : Nat) == 11)) (dn 14 || ((13 : Nat) == 14))) W'
        rw [g8, g11, g14]
        exact h
      clear g8 g11 g14 e1 e2 e3
      obtain rfl : l = [(0, 12), (1, 13), (2, 14), (3, 15), (4, 16), (5, 17), (6, 18), (7, 19), (8, 20), (9, 21), (10, 22), (11, 23), (12, 24)] := hl.symm.trans (by kernel_rfl)
      have p12 : vs 12 = _ := hp 12 (by decide) (by decide)
      clear hp hl
      refine opgoal (_) (some 25) rfl rfl fun K hK => ?_
      refine Runs.mk ?_
      simp only [putAll]
      go_simp
      refine hK _ _ ?_ hS ⟨fun h => absurd h (by decide), fun h => absurd h (by decide), fun h => absurd h (by decide), fun h8 h11 h14 => ((fun w => Below.refl _ w) W)⟩ _ rfl rfl
      first | rfl | go_simp | simp
    · -- 14: Op.store 80 (Operand.tmp 25) (Operand.tmp 23)
      intro l hl vs W dn e1 e2 e3 hS hR hp
      have f8 : dn 8 = true := e2 8 (by kernel_rfl)
      have f11 : dn 11 = true := e2 11 (by kernel_rfl)
      have f14 : dn 14 = false := e1
      replace hS : (UseS b room g n cap w.heap.size L L1 L2 (z1, z2, z3, z4) (dn 8) (dn 11) (dn 14)) W := hS
      rw [f8, f11, f14] at hS
      have g8 : (dn 8 || ((14 : Nat) == 8)) = true := by rw [f8]; rfl
      have g11 : (dn 11 || ((14 : Nat) == 11)) = true := by rw [f11]; rfl
      have g14 : (dn 14 || ((14 : Nat) == 14)) = true := by rw [f14]; rfl
      refine OpGoal.imp (S1 := UseS b room g n cap w.heap.size L L1 L2 (z1, z2, z3, z4) true true true) (fun W' h => ?_) ?_
      · show (UseS b room g n cap w.heap.size L L1 L2 (z1, z2, z3, z4) (dn 8 || ((14 : Nat) == 8)) (dn 11 || ((14 : Nat) == 11)) (dn 14 || ((14 : Nat) == 14))) W'
        rw [g8, g11, g14]
        exact h
      clear g8 g11 g14 e1 e2 e3
      obtain rfl : l = [(0, 12), (1, 13), (2, 14), (3, 15), (4, 16), (5, 17), (6, 18), (7, 19), (8, 20), (9, 21), (10, 22), (11, 23), (12, 24), (13, 25)] := hl.symm.trans (by kernel_rfl)
      have p11 : (fun v W => W.ownsRow (b + 1) 77 4 v L2.length (L2.flatMap encE) ∧ (v.ownBlock = some g ∨ ∀ k, v.ownBlock = some k → w.heap.size ≤ k)) (vs 11) W := hp 11 (by decide) (by decide)
      dsimp only at p11
      have p13 : vs 13 = _ := hp 13 (by decide) (by decide)
      clear hp hl
      obtain ⟨o11, r11⟩ := p11
      refine opgoal (_) (none) rfl rfl fun K hK => ?_
      obtain ⟨A', c', q11, _⟩ := own_rdE o11 encE_len rfl
      rw [q11] at o11 r11
      have hc1 : W.cell? ⟨b, 1, none⟩ = some (.slice (some ⟨g, 0, none⟩) n cap) := (hS.blk rfl).2
      have hf1 : W.frozen? ⟨b, 1, none⟩ = false := frozen_of_row W _ _ _ _ (hS.blk rfl).1
      refine Runs.mk ?_
      simp only [putAll]
      go_simp
      exact hK undef _ trivial (hS.fin rfl o11 r11) ⟨(fun h => absurd h (by decide)), (fun h => absurd h (by decide)), (fun _ => (Keep.refl _ _).setCell (p := ⟨b, 1, none⟩) (.inl (by simp)) _), fun h8 h11 h14 => absurd rfl h14⟩ _ rfl rfl
  · intro l hl vs W dn hd hS hR hp
    replace hS : (UseS b room g n cap w.heap.size L L1 L2 (z1, z2, z3, z4) (dn 8) (dn 11) (dn 14)) W := hS
    rw [hd 8 (by decide), hd 11 (by decide), hd 14 (by decide)] at hS
    obtain rfl : l = [(0, 12), (1, 13), (2, 14), (3, 15), (4, 16), (5, 17), (6, 18), (7, 19), (8, 20), (9, 21), (10, 22), (11, 23), (12, 24), (13, 25)] := hl.symm.trans (by kernel_rfl)
    have p0 : vs 0 = _ := hp 0 (by decide) (by decide)
    have p1 : vs 1 = _ := hp 1 (by decide) (by decide)
    have p2 : vs 2 = _ := hp 2 (by decide) (by decide)
    have p3 : vs 3 = _ := hp 3 (by decide) (by decide)
    have p4 : vs 4 = _ := hp 4 (by decide) (by decide)
    have p5 : vs 5 = _ := hp 5 (by decide) (by decide)
    have p6 : vs 6 = _ := hp 6 (by decide) (by decide)
    have p7 : vs 7 = _ := hp 7 (by decide) (by decide)
    have p8 : vs 8 = _ := hp 8 (by decide) (by decide)
    have p9 : vs 9 = _ := hp 9 (by decide) (by decide)
    have p12 : vs 12 = _ := hp 12 (by decide) (by decide)
    have p13 : vs 13 = _ := hp 13 (by decide) (by decide)
    have p14 : (fun v W => True) (vs 14) W := hp 14 (by decide) (by decide)
    dsimp only at p14
    clear hp hl
    simp only [putAll_mk, setAll, List.setIfInBounds_toArray, List.set_cons_succ, List.set_cons_zero, p0, p1, p2, p3, p4, p5, p6, p7, p8, p9, p12, p13]
    have HS := Lib.hid hS
    have HR := Lib.hid hR
    clear hS hR p14
    go_wp2
    go_end0
    exact ⟨rfl, HFIN.out _ HS.out HR.out⟩
end Go.Proofs.Ytbdcgfdchkbcnaa.Ca

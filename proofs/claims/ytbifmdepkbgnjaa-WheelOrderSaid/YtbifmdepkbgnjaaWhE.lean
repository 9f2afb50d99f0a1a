/- wheel: New, Now, a wheel that is nil, keys, Tick. -/
import Derived.Test.YtbifmdepkbgnjaaWhD
namespace Go.Proofs.Ytbifmdepkbgnjaa.Wh
open Go.RowKit Go.Proofs.Ytbifmdepkbgnjaa.L Go.Proofs.Ytbifmdepkbgnjaa.R Go.Proofs.Ytbifmdepkbgnjaa.A Go.Proofs.Ytbifmdepkbgnjaa.S Go.Proofs.Ytbifmdepkbgnjaa.T Go.Proofs.Ytbifmdepkbgnjaa.C Go.Proofs.Ytbifmdepkbgnjaa.G Go.Proofs.Ytbifmdepkbgnjaa.E Go.Proofs.Ytbifmdepkbgnjaa.F
set_option linter.unusedVariables false
set_option linter.unusedSimpArgs false

theorem new_any (w : World) : Calls Try.prog 8 #[] w fun e w' => e = .returned (.pointer (some ⟨w.heap.size, 0, none⟩)) ∧ Wh w' w.heap.size 0 (.slice none 0 0) [] ∧ Below w.heap.size w w' := by
  obtain ⟨W, hW⟩ : ∃ W, Hid (w.alloc (.cells #[.int .i64 0, .slice none 0 0] WT) = W) := ⟨_, Lib.hid rfl⟩
  have HF : Hid (Wh W w.heap.size 0 (.slice none 0 0) [] ∧ Below w.heap.size w W) := Lib.hid (by
    rw [← hW.out]
    exact ⟨⟨heap_alloc_new _ _, World.ownsRow_nil _ _ _ _⟩, below_alloc _ _⟩)
  go_enter Try.func8, Try.ntmps8
  go_wp2_with (rw [hW.out])
  go_ret
  exact ⟨rfl, HF.out⟩
theorem now_any (b : Nat) (now : Int) (v : Value) (L : List Tm) (w : World) (h : Wh w b now v L) : Calls Try.prog 22 #[.pointer (some ⟨b, 0, none⟩)] w fun e w' => e = .returned (.int .i64 now) ∧ w = w' := by
  have c0 := h.cell.1
  clear h
  go_enter Try.func22, Try.ntmps22
  go_wp2
  go_ret
  exact ⟨rfl, rfl⟩
theorem now_nil (w : World) : Calls Try.prog 22 #[.pointer none] w fun e w' => e = .returned (.int .i64 0) ∧ w = w' := by
  go_enter Try.func22, Try.ntmps22
  go_wp2
  go_ret
  exact ⟨rfl, rfl⟩
theorem clear_nil (w : World) : Calls Try.prog 19 #[.pointer none] w fun e w' => e = .returned (.tuple #[]) ∧ w = w' := by
  go_enter Try.func19, Try.ntmps19
  go_wp2
  go_end0
  exact ⟨rfl, rfl⟩
theorem tick_nil (w : World) : Calls Try.prog 11 #[.pointer none] w fun e w' => e = .returned (.slice none 0 0) ∧ w = w' := by
  go_enter Try.func11, Try.ntmps11
  go_wp2
  go_ret
  exact ⟨rfl, rfl⟩
theorem keysw_nil (w : World) : Calls Try.prog 12 #[.pointer none] w fun e w' => e = .returned (.slice none 0 0) ∧ w = w' := by
  go_enter Try.func12, Try.ntmps12
  go_wp2
  go_ret
  exact ⟨rfl, rfl⟩
theorem due_nil (k : Ky) (w : World) : Calls Try.prog 20 #[.pointer none, aggK k] w fun e w' => e = .returned (.tuple #[.int .i64 0, .bool false]) ∧ Below w.heap.size w w' := by
  have hb := Lib.hid (below_alloc w (.cells (encK k).toArray KT))
  obtain ⟨a1, a2, a3, a4, a5, a6⟩ := k
  dsimp only [encK, aggK] at hb ⊢
  go_enter Try.func20, Try.ntmps20
  go_wp2
  refine bodyPost_ret (v := .tuple #[.int .i64 0, .bool false]) (by simp [results, Try.results20, go_sem]) rfl ?_
  exact ⟨rfl, hb.out⟩
theorem set_nil (k : Ky) (after : Int) (w : World) : Calls Try.prog 9 #[.pointer none, aggK k, .int .i64 after] w fun e w' => e = .returned (.int .i64 1) ∧ Below w.heap.size w w' := by
  have hb := Lib.hid (below_alloc w (.cells (encK k).toArray KT))
  obtain ⟨a1, a2, a3, a4, a5, a6⟩ := k
  dsimp only [encK, aggK] at hb ⊢
  go_enter Try.func9, Try.ntmps9
  go_wp2
  go_ret
  exact ⟨rfl, hb.out⟩
set_option maxHeartbeats 4000000 in
theorem keys_any (A : Option Addr) (n c : Nat) (L : List Tm) (w : World) (hr : RdE w A n 7 (L.map encT)) (hn : n ≤ 1000000) :
    Calls Try.prog 28 #[.slice A n c] w fun e w' => ∃ v, e = .returned v ∧ w'.ownsRow w.heap.size KT 6 v n ((L.map keyOf).flatMap encK) ∧ Below w.heap.size w w' := by
  have HR := Lib.hid hr
  have HL : Hid (L.length = n) := Lib.hid (by simpa using hr.1)
  clear hr
  go_enter Try.func28, Try.ntmps28
  go_wp2
  go_loopw [3, 8] (fun v i wr => ∃ k : Nat, k ≤ n ∧ i = .int .i64 k ∧ Hid (wr.ownsRow w.heap.size KT 6 v k (((L.take k).map keyOf).flatMap encK)) ∧ Below w.heap.size w wr) (fun _ i _ => n - (intOf i).toNat)
  case atStart => exact ⟨0, by omega, rfl, Lib.hid (World.ownsRow_nil _ _ _ _), Below.refl _ _⟩
  case round =>
    obtain ⟨k, hk, rfl, ho, hb⟩ := hrel
    by_cases hlt : k < n
    · have hkl : k < L.length := by have := HL.out; omega
      obtain ⟨z, hz⟩ : ∃ z : Tm, Hid (L[k] = z) := ⟨_, Lib.hid rfl⟩
      obtain ⟨ab, ao, hA, c0, c1, c2, c3, c4, c5, c6⟩ := tm_at (HR.out.below hb) k hlt hkl z hz.out
      subst hA
      obtain ⟨W, hW⟩ : ∃ W, Hid ((wr.alloc (.cells (encT z).toArray TM)).alloc (.cells (encK (keyOf z)).toArray KT) = W) := ⟨_, Lib.hid rfl⟩
      have hbW : Below wr.heap.size wr W := by rw [← hW.out]; exact below2 (below_alloc _ _) (below_alloc _ _)
      have g1 : W.heap[wr.heap.size + 1]? = some (.cells (encK (keyOf z)).toArray KT (0, 0)) := by
        rw [← hW.out]
        have := heap_alloc_new (wr.alloc (.cells (encT z).toArray TM)) (.cells (encK (keyOf z)).toArray KT)
        rw [World.size_alloc] at this
        exact this
      have HO2 := Lib.hid (own_kept ho.out hbW)
      have HB2 := Lib.hid (below2 hb hbW)
      have HLI := Lib.hid (lies_block g1)
      have HWS : Hid (w.heap.size ≤ W.heap.size) := Lib.hid HB2.out.size
      have hNX : Hid (((L.take k).map keyOf).flatMap encK ++ encK (keyOf z) = ((L.take (k + 1)).map keyOf).flatMap encK) := Lib.hid (by
        rw [List.take_add_one, List.getElem?_eq_getElem hkl, hz.out]
        simp)
      obtain ⟨F, hF⟩ : ∃ F, ((L.take k).map keyOf).flatMap encK = F := ⟨_, rfl⟩
      rw [hF] at HO2 hNX
      clear hb ho g1 hbW hF hz
      obtain ⟨b1, b2, b3, b4, b5, b6, b7⟩ := z
      dsimp only [encT, encK, keyOf] at hW HLI hNX c0 c1 c2 c3 c4 c5 c6
      go_wp2_with (at_builtin; rw [hW.out]; refine wpList_append_src _ rfl (.tmp 12) (.tmp 15) w.heap.size 35 KT (.agg #[.int .i64 0, .int .i64 0, .int .i64 0, .int .i64 0, .int .i64 0, .int .i64 0]) 6 48 rfl (by kernel_rfl) (by kernel_rfl) rfl (by decide) (by decide) _ k (F) rfl HO2.out (some ⟨wr.heap.size + 1, 0, none⟩) 1 1 rfl (fun h => by cases h) [.int .i64 b1, .int .i64 b2, .int .i64 b3, .int .i64 b4, .int .i64 b5, .int .i64 b6] rfl HLI.out (by simp [Value.oneCell']) (by omega) HWS.out ?_; intro v9 w9 ho9 hg9 hv9)
      go_roundw
      case rel => exact ⟨k + 1, by omega, by go_num, Lib.hid (by rw [← hNX.out]; exact ho9), HB2.out.trans (below_next HO2.out HWS.out hg9)⟩
      case measure => simp [intOf]; omega
    · obtain rfl : k = n := by omega
      rw [List.take_of_length_le (by have := HL.out; omega)] at ho
      have HB := Lib.hid hb
      clear hb
      go_wp2
      go_ret
      exact ⟨_, rfl, ho.out, HB.out⟩
/-- two rows of timers that the call makes. -/
structure Rows2 (W : World) (B : Nat) (v : Value) (n : Nat) (D : List Tm) (u : Value) (m : Nat) (R : List Tm) : Prop where
  one : W.ownsRow B TM 7 v n (D.flatMap encT)
  two : W.ownsRow B TM 7 u m (R.flatMap encT)
  ne : ∀ k, v.ownBlock = some k → u.ownBlock ≠ some k
  sz : B ≤ W.heap.size
  n1 : D = [] → v = .slice none 0 0
  n2 : R = [] → u = .slice none 0 0
section
variable {W W' : World} {B n m : Nat} {v u v' : Value} {D R : List Tm} {t : Tm}
theorem Rows2.symm (h : Rows2 W B v n D u m R) : Rows2 W B u m R v n D := ⟨h.two, h.one, fun k h1 h2 => h.ne k h2 h1, h.sz, h.n2, h.n1⟩
theorem Rows2.below (h : Rows2 W B v n D u m R) (hb : Below W.heap.size W W') : Rows2 W' B v n D u m R := ⟨own_kept h.one hb, own_kept h.two hb, h.ne, Nat.le_trans h.sz hb.size, h.n1, h.n2⟩
theorem Rows2.push (h : Rows2 W B v n D u m R) (ho : W'.ownsRow B TM 7 v' (n + 1) (D.flatMap encT ++ encT t)) (hg : W.grownBy W' v.ownBlock) (hv : v'.ownBlock = v.ownBlock ∨ v'.ownBlock = some W.heap.size) : Rows2 W' B v' (n + 1) (D ++ [t]) u m R ∧ Below B W W' := by
  have hk : Keep v.ownBlock.toList W W' := keep_grown hg _ (fun j hj _ => by simp [hj])
  refine ⟨⟨by rw [List.flatMap_append]; simpa using ho, own_keep h.two hk (fun k hk hm => h.ne k (by simpa using hm) hk), fun k h1 h2 => ?_, Nat.le_trans h.sz hk.size, fun e => by simp at e, h.n2⟩, hk.below h.sz fun x hx => (own_lt h.one x (by simpa using hx)).1⟩
  rcases hv with e | e
  · exact h.ne k (by rw [← e]; exact h1) h2
  · rw [e] at h1
    cases h1
    have := (own_lt h.two _ h2).2
    omega
end
def isDue (d : Int) (t : Tm) : Bool := dueOf t == d
/-- what Tick hands back: a row of keys of its own, and the wheel. -/
def Ticked (b : Nat) (v : Value) (now : Int) (L : List Tm) (w : World) (e : Ending) (w' : World) : Prop :=
  ∃ u v' B2, e = .returned u ∧ w'.ownsRow B2 KT 6 u (L.filter (isDue (now + 1))).length (((L.filter (isDue (now + 1))).map keyOf).flatMap encK) ∧ Wh w' b (now + 1) v' (L.filter fun t => !isDue (now + 1) t) ∧ Chg b v w v' w' ∧ w.heap.size ≤ B2 ∧ b < B2 ∧ (∀ k, v'.ownBlock = some k → k < B2) ∧ ((L.filter fun t => !isDue (now + 1) t) = [] → v' = .slice none 0 0)
set_option maxHeartbeats 8000000 in
set_option maxRecDepth 100000 in
theorem tick_any (b : Nat) (now : Int) (v : Value) (L : List Tm) (w : World) (h : Wh w b now v L) (hsm : L.length ≤ 256) (hnow : 0 ≤ now ∧ now < 1099511627776) :
    Calls Try.prog 11 #[.pointer (some ⟨b, 0, none⟩)] w (Ticked b v now L w) := by
  obtain ⟨c0, c1, f0, f1⟩ := h.cell
  obtain ⟨A, cp, hv, -, -, -⟩ := h.rd
  obtain ⟨n, hn⟩ : ∃ n, L.length = n := ⟨_, rfl⟩
  obtain ⟨nx, hnx⟩ : ∃ nx, now + 1 = nx := ⟨_, rfl⟩
  obtain ⟨W1, hW1⟩ : ∃ W1, Hid (w.setCell ⟨b, 0, none⟩ (.int .i64 nx) = W1) := ⟨_, Lib.hid rfl⟩
  have hk1 : Keep [b] w W1 := by rw [← hW1.out]; exact (Keep.refl _ _).setCell (p := ⟨b, 0, none⟩) (.inl (by simp)) _
  have hs1 : W1.heap.size = w.heap.size := by rw [← hW1.out, World.size_setCell]
  have h1 : Wh W1 b nx v L := ⟨by rw [← hW1.out]; exact (Go.Proofs.Ytbifmdepkbgnjaa.L.heap_setCell_at w b 0 _ _ _ _ h.blk).trans rfl, own_keep h.own hk1 (fun k hk => by have := (h.ne k hk).1; simp; omega)⟩
  have hr1 : RdE W1 A n 7 (L.map encT) := by
    obtain ⟨A', cp', hv', hr', -, -⟩ := h1.rd
    rw [hv] at hv'
    injection hv' with e1 e2 e3
    subst e1
    rw [hn] at hr'
    exact hr'
  have HR := Lib.hid hr1
  have HL := Lib.hid hn
  have HNX := Lib.hid hnx
  have HK1 := Lib.hid (And.intro hk1 hs1)
  have H1 : Hid (∀ W, Below W1.heap.size W1 W → Wh W b nx v L) := Lib.hid fun W hb => h1.below hb
  have HV : Hid (v = .slice A n cp) := Lib.hid (by rw [hv, hn])
  have HBL := Lib.hid (And.intro h1.lt h1.ne)
  have HC1 : Hid (∀ W, Below W1.heap.size W1 W → W.cell? ⟨b, 0, none⟩ = some (.int .i64 nx) ∧ W.cell? ⟨b, 1, none⟩ = some (.slice A n cp) ∧ W.frozen? ⟨b, 1, none⟩ = false) := Lib.hid fun W hb => by
    have h2 := (h1.below hb).cell
    exact ⟨h2.1, by rw [h2.2.1, hv, hn], h2.2.2.2⟩
  obtain ⟨a0, a1, -⟩ := HC1.out W1 (Below.refl _ _)
  rw [hv, hn] at c1
  rw [hn] at hsm
  clear h h1 hr1 hk1 hs1 hv hn f1
  have d1 : decide ((1099511627776 : Int) ≤ now) = false := by simp; omega
  have hw64 : IntKind.i64.wrap (now + 1) = nx := by rw [IntKind.wrap_i64, ← hnx]; omega
  go_enter Try.func11, Try.ntmps11
  go_wp2_with (rw [hnx, hW1.out])
  try rw [hnx]
  try rw [hW1.out]
  clear hw64 d1 hnx
  go_loopw [3, 4, 28] (fun v3 v4 i wr => ∃ (k : Nat) (nd nr : Nat), k ≤ n ∧ i = .int .i64 k ∧ Hid (Rows2 wr W1.heap.size v3 nd ((L.take k).filter (isDue nx)) v4 nr ((L.take k).filter fun t => !isDue nx t) ∧ nd ≤ k ∧ nr ≤ k ∧ Below W1.heap.size W1 wr)) (fun _ _ i _ => n - (intOf i).toNat)
  case atStart => exact ⟨0, 0, 0, by omega, rfl, Lib.hid ⟨⟨World.ownsRow_nil _ _ _ _, World.ownsRow_nil _ _ _ _, (fun k hk => by cases hk), Nat.le_refl _, (fun _ => rfl), (fun _ => rfl)⟩, by omega, by omega, Below.refl _ _⟩⟩
  case round =>

    obtain ⟨k, nd, nr, hk, rfl, HI⟩ := hrel
    by_cases hlt : k < n
    · have hkl : k < L.length := by have := HL.out; omega
      obtain ⟨z, hz⟩ : ∃ z : Tm, Hid (L[k] = z) := ⟨_, Lib.hid rfl⟩
      obtain ⟨ab, ao, hA, c0, c1, c2, c3, c4, c5, c6⟩ := tm_at (HR.out.below HI.out.2.2.2) k hlt hkl z hz.out
      subst hA
      obtain ⟨W, hW⟩ : ∃ W, Hid (wr.alloc (.cells (encT z).toArray TM) = W) := ⟨_, Lib.hid rfl⟩
      obtain ⟨tb, htb⟩ : ∃ tb, Hid (wr.heap.size = tb) := ⟨_, Lib.hid rfl⟩
      have hbW : Below wr.heap.size wr W := by rw [← hW.out]; exact below_alloc _ _
      have g2 : W.heap[tb]? = some (.cells (encT z).toArray TM (0, 0)) := by rw [← hW.out, ← htb.out]; exact heap_alloc_new _ _
      have HTB : Hid (∀ W', Below W.heap.size W W' → W'.heap[tb]? = some (.cells (encT z).toArray TM (0, 0))) := Lib.hid fun W' hb => keep_block (.of_below (S := []) hb) g2 (by simp)
      have HBW := Lib.hid (below2 HI.out.2.2.2 hbW)
      have HRW := Lib.hid (HI.out.1.below hbW)
      obtain ⟨b0, -, -⟩ := HC1.out W HBW.out
      obtain ⟨q, hq⟩ : ∃ q, isDue nx z = q := ⟨_, rfl⟩
      have hf1 : Hid ((L.take (k + 1)).filter (isDue nx) = (L.take k).filter (isDue nx) ++ if q then [z] else []) := Lib.hid (by
        rw [List.take_add_one, List.getElem?_eq_getElem hkl, hz.out, Option.toList_some, List.filter_append]
        congr 1
        rw [← hq]
        cases h : isDue nx z <;> simp [h])
      have hf2 : Hid ((L.take (k + 1)).filter (fun t => !isDue nx t) = (L.take k).filter (fun t => !isDue nx t) ++ if q then [] else [z]) := Lib.hid (by
        rw [List.take_add_one, List.getElem?_eq_getElem hkl, hz.out, Option.toList_some, List.filter_append]
        congr 1
        rw [← hq]
        cases h : isDue nx z <;> simp [h])
      have hnd9 : nd ≤ 256 := by have := HI.out.2.1; omega
      have hnr9 : nr ≤ 256 := by have := HI.out.2.2.1; omega
      have HLE := Lib.hid (And.intro HI.out.2.1 HI.out.2.2.1)
      obtain ⟨D, hD⟩ : ∃ D, (L.take k).filter (isDue nx) = D := ⟨_, rfl⟩
      obtain ⟨R, hR⟩ : ∃ R, (L.take k).filter (fun t => !isDue nx t) = R := ⟨_, rfl⟩
      rw [hD] at hf1 HRW
      rw [hR] at hf2 HRW
      clear hD hR
      have hzq : (dueOf z == nx) = q := hq
      clear hq hbW hz HI
      obtain ⟨b1, b2, b3, b4, b5, b6, b7⟩ := z
      dsimp only [encT, dueOf] at hW hzq HTB c0 c1 c2 c3 c4 c5 c6
      have g3 := HTB.out W (Below.refl _ _)
      have t6 : W.cell? ⟨tb, 6, none⟩ = some (.int .i64 b7) := by rw [cell_of_row W _ 6 _ _ _ g3]; rfl
      clear g2 g3
      go_wp2_with (rw [hW.out, htb.out])
      go_quiet (fail)
      obtain ⟨Wq, hWq⟩ : ∃ Wq, Hid (W.drewN nq = Wq) := ⟨_, Lib.hid rfl⟩
      have hbq : Below W.heap.size W Wq := by rw [← hWq.out]; exact below_drewN _ _
      rw [hWq.out]
      have g4 := HTB.out Wq hbq
      have s0 : Wq.cell? ⟨tb, 0, none⟩ = some (.int .i64 b1) := by rw [cell_of_row Wq _ 0 _ _ _ g4]; rfl
      have s1 : Wq.cell? ⟨tb, 1, none⟩ = some (.int .i64 b2) := by rw [cell_of_row Wq _ 1 _ _ _ g4]; rfl
      have s2 : Wq.cell? ⟨tb, 2, none⟩ = some (.int .i64 b3) := by rw [cell_of_row Wq _ 2 _ _ _ g4]; rfl
      have s3 : Wq.cell? ⟨tb, 3, none⟩ = some (.int .i64 b4) := by rw [cell_of_row Wq _ 3 _ _ _ g4]; rfl
      have s4 : Wq.cell? ⟨tb, 4, none⟩ = some (.int .i64 b5) := by rw [cell_of_row Wq _ 4 _ _ _ g4]; rfl
      have s5 : Wq.cell? ⟨tb, 5, none⟩ = some (.int .i64 b6) := by rw [cell_of_row Wq _ 5 _ _ _ g4]; rfl
      have s6 : Wq.cell? ⟨tb, 6, none⟩ = some (.int .i64 b7) := by rw [cell_of_row Wq _ 6 _ _ _ g4]; rfl
      have HBQ := Lib.hid (below2 HBW.out hbq)
      clear hbq g4 t6 b0
      cases q with
      | true =>
        have HRQ := Lib.hid (HRW.out.below (hWq.out ▸ below_drewN _ _))
        go_wp2_with (at_builtin; have hbA := below_alloc Wq (.cells #[.int .i64 b1, .int .i64 b2, .int .i64 b3, .int .i64 b4, .int .i64 b5, .int .i64 b6, .int .i64 b7] TM); have HR2 := HRQ.out.below hbA; refine wpList_append_src _ rfl (.tmp 39) (.tmp 41) W1.heap.size 61 TM (.agg #[.int .i64 0, .int .i64 0, .int .i64 0, .int .i64 0, .int .i64 0, .int .i64 0, .int .i64 0]) 7 56 rfl (by kernel_rfl) (by kernel_rfl) rfl (by decide) (by decide) _ nd (D.flatMap encT) rfl HR2.one (some ⟨Wq.heap.size, 0, none⟩) 1 1 rfl (fun h => by cases h) [.int .i64 b1, .int .i64 b2, .int .i64 b3, .int .i64 b4, .int .i64 b5, .int .i64 b6, .int .i64 b7] rfl (lies_block (heap_alloc_new _ _)) (by simp [Value.oneCell']) (by omega) HR2.sz ?_; intro v9 w9 ho9 hg9 hv9; have HP := Lib.hid (HR2.push (t := (b1, b2, b3, b4, b5, b6, b7)) ho9 hg9 hv9); have HBA := Lib.hid hbA; clear ho9 hg9 hv9 HR2 hbA)
        go_roundw
        case rel => exact ⟨k + 1, nd + 1, nr, by omega, by go_num, Lib.hid ⟨by rw [hf1.out, hf2.out]; simpa using HP.out.1, by have := HLE.out.1; omega, by have := HLE.out.2; omega, (below2 HBQ.out HBA.out).trans HP.out.2⟩⟩
        case measure => simp [intOf]; omega
      | false =>
        have HRQ := Lib.hid (HRW.out.below (hWq.out ▸ below_drewN _ _)).symm
        go_wp2_with (at_builtin; have hbA := below_alloc Wq (.cells #[.int .i64 b1, .int .i64 b2, .int .i64 b3, .int .i64 b4, .int .i64 b5, .int .i64 b6, .int .i64 b7] TM); have HR2 := HRQ.out.below hbA; refine wpList_append_src _ rfl (.tmp 43) (.tmp 45) W1.heap.size 61 TM (.agg #[.int .i64 0, .int .i64 0, .int .i64 0, .int .i64 0, .int .i64 0, .int .i64 0, .int .i64 0]) 7 56 rfl (by kernel_rfl) (by kernel_rfl) rfl (by decide) (by decide) _ nr (R.flatMap encT) rfl HR2.one (some ⟨Wq.heap.size, 0, none⟩) 1 1 rfl (fun h => by cases h) [.int .i64 b1, .int .i64 b2, .int .i64 b3, .int .i64 b4, .int .i64 b5, .int .i64 b6, .int .i64 b7] rfl (lies_block (heap_alloc_new _ _)) (by simp [Value.oneCell']) (by omega) HR2.sz ?_; intro v9 w9 ho9 hg9 hv9; have HP := Lib.hid (HR2.push (t := (b1, b2, b3, b4, b5, b6, b7)) ho9 hg9 hv9); have HBA := Lib.hid hbA; clear ho9 hg9 hv9 HR2 hbA)
        go_roundw
        case rel => exact ⟨k + 1, nd, nr + 1, by omega, by go_num, Lib.hid ⟨by rw [hf1.out, hf2.out]; simpa using HP.out.1.symm, by have := HLE.out.1; omega, by have := HLE.out.2; omega, (below2 HBQ.out HBA.out).trans HP.out.2⟩⟩
        case measure => simp [intOf]; omega
    · obtain rfl : k = n := by omega
      rw [List.take_of_length_le (by have := HL.out; omega)] at HI
      have HN2 := Lib.hid HI.out.1.n2
      obtain ⟨A3, cc3, hv3⟩ := own_formN HI.out.1.one
      obtain ⟨A4, cc4, hv4⟩ := own_formN HI.out.1.two
      subst hv3 hv4
      obtain ⟨b0, b1, b2⟩ := HC1.out wr HI.out.2.2.2
      obtain ⟨W9, hW9⟩ : ∃ W9, Hid (wr.setCell ⟨b, 1, none⟩ (.slice A4 nr cc4) = W9) := ⟨_, Lib.hid rfl⟩
      have hk9 : Keep [b] wr W9 := by rw [← hW9.out]; exact (Keep.refl _ _).setCell (p := ⟨b, 1, none⟩) (.inl (by simp)) _
      have hs9 : W9.heap.size = wr.heap.size := by rw [← hW9.out, World.size_setCell]
      have hbl := HBL.out.1
      have hb3 : ∀ k, (Value.slice A3 nd cc3).ownBlock = some k → k ∉ [b] := fun k hk => by have := (own_lt HI.out.1.one k hk).1; simp; omega
      have hb4 : ∀ k, (Value.slice A4 nr cc4).ownBlock = some k → k ∉ [b] := fun k hk => by have := (own_lt HI.out.1.two k hk).1; simp; omega
      have ho3 := own_keep HI.out.1.one hk9 hb3
      have ho4 := own_keep HI.out.1.two hk9 hb4
      obtain ⟨DL, hDL⟩ : ∃ DL, L.filter (isDue nx) = DL := ⟨_, rfl⟩
      obtain ⟨RL, hRL⟩ : ∃ RL, L.filter (fun t => !isDue nx t) = RL := ⟨_, rfl⟩
      have hdl : DL.length = nd := by have h1 := HI.out.1.one.1; rw [hDL, flat_len encT_len] at h1; omega
      have hrl : RL.length = nr := by have h1 := HI.out.1.two.1; rw [hRL, flat_len encT_len] at h1; omega
      rw [hDL] at ho3
      rw [hRL] at ho4
      obtain ⟨A', c', hv', hr3, -, -⟩ := own_rdE ho3 encT_len hdl
      injection hv' with e1 e2 e3
      subst e1 e3
      clear e2
      have HKS := Lib.hid (keys_any A3 nd cc3 DL W9 hr3 (by have := HI.out.2.1; omega))
      have HFIN : Hid (∀ u w', w'.ownsRow W9.heap.size KT 6 u nd ((DL.map keyOf).flatMap encK) → Below W9.heap.size W9 w' → Ticked b v now L w (.returned u) w') := Lib.hid fun u w' hu hb => by
        unfold Ticked
        rw [HNX.out, hDL, hRL, hdl]
        have hkk1 : Keep [b] w W9 := (HK1.out.1.trans (.of_below HI.out.2.2.2)).trans hk9
        have hsw := HK1.out.2
        have hsz := HI.out.2.2.2.size
        refine ⟨u, .slice A4 nr cc4, W9.heap.size, rfl, hu, Wh.below ⟨?_, ?_⟩ hb, ⟨?_, .inr fun k hk => ?_⟩, by omega, by omega, fun k hk => ?_, fun e => by have := HN2.out; rw [hRL] at this; exact this e⟩
        · have h5 := (H1.out wr HI.out.2.2.2).blk
          rw [← hW9.out]
          exact (Go.Proofs.Ytbifmdepkbgnjaa.L.heap_setCell_at wr b 1 _ _ _ _ h5).trans rfl
        · rw [hrl]
          exact own_base ho4 (by omega)
        · exact (hkk1.mono (by simp)).trans (.of_below hb)
        · have := (own_lt ho4 k hk).1; omega
        · exact (own_lt ho4 k hk).2
      clear ho3 ho4 hr3 hdl hrl hDL hRL hb3 hb4 hk9 hs9
      go_wp2_with (rw [hW9.out])
      refine HKS.out.mono ?_
      rintro e w9 ⟨u9, rfl, hu, hb9⟩
      have HZ := Lib.hid (HFIN.out u9 w9 hu hb9)
      clear hu hb9
      go_wp2
      go_ret
      exact HZ.out
end Go.Proofs.Ytbifmdepkbgnjaa.Wh

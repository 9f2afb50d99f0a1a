/- arrow: NewBook. -/
import Derived.Test.YtmddcmfleipjjaaArK
import Derived.Test.YtmddcmfleipjjaaD
namespace Go.Proofs.Ytmddcmfleipjjaa.Ar
open Go.RowKit Go.Proofs.Ytmddcmfleipjjaa.L Go.Proofs.Ytmddcmfleipjjaa.A Go.Proofs.Ytmddcmfleipjjaa.R Go.Proofs.Ytmddcmfleipjjaa.T Go.Proofs.Ytmddcmfleipjjaa.F Go.Proofs.Ytmddcmfleipjjaa.S Go.Proofs.Ytmddcmfleipjjaa.Sp Go.Proofs.Ytmddcmfleipjjaa.G Go.Proofs.Ytmddcmfleipjjaa.O Go.Proofs.Ytmddcmfleipjjaa.E
set_option linter.unusedVariables false
set_option linter.unusedSimpArgs false

/-- a book whose row of arrows may be nil. -/
structure BkV (W : World) (b : Nat) (v : Value) (L : List A3) : Prop where
  blk : W.heap[b]? = some (.cells #[v] BK (0, 0))
  own : W.ownsRow (b + 1) AR 3 v L.length (L.flatMap encA)
structure PushB (b x : Nat) (v0 : Value) (L : List A3) (e : A3) (f7 f10 : Bool) (W : World) : Prop where
  blk : f10 = false → W.heap[b]? = some (.cells #[v0] BK (0, 0))
  own : f7 = false → W.ownsRow (b + 1) AR 3 v0 L.length (L.flatMap encA)
  ent : W.heap[x]? = some (.cells #[.int .i64 e.1, .int .i64 e.2.1, .int .i64 e.2.2] AR (0, 0))
  last : f10 = true → ∃ v, BkV W b v (L ++ [e])
  bx : x ≠ b
  gx : v0.ownBlock ≠ some x
  gb : v0.ownBlock ≠ some b
section
variable {W W' : World} {b x : Nat} {v v0 : Value} {L : List A3} {e : A3} {f7 f10 : Bool}
theorem BkV.below (h : BkV W b v L) (hb : Below W.heap.size W W') : BkV W' b v L := ⟨keep_block (.of_below (S := []) hb) h.blk (by simp), own_kept h.own hb⟩
theorem PushB.cells (h : PushB b x v0 L e f7 f10 W) : W.cell? ⟨x, 0, none⟩ = some (.int .i64 e.1) ∧ W.cell? ⟨x, 1, none⟩ = some (.int .i64 e.2.1) ∧ W.cell? ⟨x, 2, none⟩ = some (.int .i64 e.2.2) := by
  refine ⟨?_, ?_, ?_⟩
  · rw [cell_of_row W x 0 _ _ _ h.ent]; rfl
  · rw [cell_of_row W x 1 _ _ _ h.ent]; rfl
  · rw [cell_of_row W x 2 _ _ _ h.ent]; rfl
theorem PushB.cell (h : PushB b x v0 L e f7 f10 W) (hf : f10 = false) : W.cell? ⟨b, 0, none⟩ = some v0 := by rw [cell_of_row W b 0 _ _ _ (h.blk hf)]; rfl
theorem PushB.lt (h : PushB b x v0 L e f7 f10 W) (hf : f10 = false) : b < W.heap.size := (Array.getElem?_eq_some_iff.1 (h.blk hf)).1
theorem PushB.below (h : PushB b x v0 L e f7 f10 W) (hb : Below W.heap.size W W') : PushB b x v0 L e f7 f10 W' := by
  have hk : Keep [] W W' := .of_below hb
  exact ⟨fun hf => keep_block hk (h.blk hf) (by simp), fun hf => own_kept (h.own hf) hb, keep_block hk h.ent (by simp), fun hf => (by obtain ⟨v, hc⟩ := h.last hf; exact ⟨v, hc.below hb⟩), h.bx, h.gx, h.gb⟩
theorem PushB.app (h : PushB b x v0 L e false false W) (hk : Keep v0.ownBlock.toList W W') : PushB b x v0 L e true false W' := by
  have hb : b ∉ v0.ownBlock.toList := fun hm => h.gb (by simpa using hm)
  have hx : x ∉ v0.ownBlock.toList := fun hm => h.gx (by simpa using hm)
  exact ⟨fun hf => keep_block hk (h.blk rfl) hb, (fun h => by cases h), keep_block hk h.ent hx, (fun h => by cases h), h.bx, h.gx, h.gb⟩
theorem PushB.fin (h : PushB b x v0 L e true false W) (ho : W.ownsRow (b + 1) AR 3 v (L.length + 1) (L.flatMap encA ++ encA e)) : PushB b x v0 L e true true (W.setCell ⟨b, 0, none⟩ v) := by
  have hk : Keep [b] W (W.setCell ⟨b, 0, none⟩ v) := (Keep.refl _ _).setCell (p := ⟨b, 0, none⟩) (.inl (by simp)) _
  have hx : x ∉ [b] := by have := h.bx; simpa using this
  have ho' : W.ownsRow (b + 1) AR 3 v (L ++ [e]).length ((L ++ [e]).flatMap encA) := by rw [List.length_append, List.flatMap_append]; simpa using ho
  exact ⟨(fun h => by cases h), (fun h => by cases h), keep_block hk h.ent hx, (fun _ => ⟨v, ⟨(Go.Proofs.Ytmddcmfleipjjaa.L.heap_setCell_at W b 0 _ _ _ v (h.blk rfl)).trans rfl, own_keep ho' hk (fun k hk => by have := (own_lt ho k hk).1; simp; omega)⟩⟩), h.bx, h.gx, h.gb⟩
end
def bad (a t : Int) (xs : List Int) : Bool := xs.any fun o => towI a o t == 0
def ofL (a t : Int) (xs : List Int) : List A3 := xs.map fun o => (a, t, towI a o t)
/-- what NewBook hands back. -/
def Nb (w : World) (a t : Int) (xs : List Int) (e : Ending) (w' : World) : Prop :=
  Below w.heap.size w w' ∧ (((xs.length = 0 ∨ 16 < xs.length ∨ bad a t xs = true) ∧ e = .returned (.tuple #[.pointer none, .int .i64 1])) ∨
    (1 ≤ xs.length ∧ xs.length ≤ 16 ∧ bad a t xs = false ∧ ∃ b g cc, e = .returned (.tuple #[.pointer (some ⟨b, 0, none⟩), .int .i64 0]) ∧ w.heap.size ≤ b ∧ Bk w' b g cc (ofL a t xs)))
set_option maxHeartbeats 8000000 in
set_option maxRecDepth 100000 in
theorem newbook_any (a t : Int) (A : Option Addr) (n c : Nat) (xs : List Int) (w : World) (hr : Rd w A n (xs.map (Value.int .i64))) :
    Calls Try.prog 16 #[.int .i64 a, .int .i64 t, .slice A n c] w (Nb w a t xs) := by
  have hl : xs.length = n := by have := hr.len; simpa using this
  have HL := Lib.hid hl
  have hn9 := hr.2.1
  have HR := Lib.hid hr
  clear hr hl
  by_cases h0 : n = 0
  · subst h0
    go_enter Try.func16, Try.ntmps16
    go_wp2_with fail
    refine bodyPost_ret (v := .tuple #[.pointer none, .int .i64 1]) (by simp [results, Try.results16, go_sem]) rfl ?_
    exact ⟨Below.refl _ _, .inl ⟨.inl HL.out, rfl⟩⟩
  have d0 : ((n : Int) == 0) = false := by simp; omega
  have d1 : decide ((n : Int) = 0) = false := by simp; omega
  have d2 : (n == 0) = false := by simpa using h0
  by_cases h16 : 16 < n
  · have d3 : decide ((16 : Int) < (n : Int)) = true := by simp; omega
    have d4 : decide (16 < n) = true := by simp; omega
    go_enter Try.func16, Try.ntmps16
    go_wp2_with fail
    refine bodyPost_ret (v := .tuple #[.pointer none, .int .i64 1]) (by simp [results, Try.results16, go_sem]) rfl ?_
    exact ⟨Below.refl _ _, .inl ⟨.inr (.inl (by have := HL.out; omega)), rfl⟩⟩
  have d3 : decide ((16 : Int) < (n : Int)) = false := by simp; omega
  have d4 : decide (16 < n) = false := by simp; omega
  obtain ⟨b, hb⟩ : ∃ b, Hid (w.heap.size = b) := ⟨_, Lib.hid rfl⟩
  obtain ⟨w0, hw0⟩ : ∃ w0, Hid (w.alloc (.cells #[.slice none 0 0] BK) = w0) := ⟨_, Lib.hid rfl⟩
  have HB0 : Hid (Below b w w0 ∧ BkV w0 b (.slice none 0 0) []) := Lib.hid (by
    rw [← hw0.out, ← hb.out]
    exact ⟨below_alloc _ _, heap_alloc_new _ _, World.ownsRow_nil _ _ _ _⟩)
  go_enter Try.func16, Try.ntmps16
  go_wp2_with fail
  rw [hw0.out, hb.out]
  clear d0 d1 d2 d3 d4
  go_loopw [25] (fun i wr => ∃ (k : Nat) (v : Value), k ≤ n ∧ i = .int .i64 k ∧ Hid (Below b w wr ∧ BkV wr b v (ofL a t (xs.take k)) ∧ bad a t (xs.take k) = false)) (fun i _ => n - (intOf i).toNat)
  case atStart => exact ⟨0, _, by omega, rfl, Lib.hid ⟨HB0.out.1, HB0.out.2, rfl⟩⟩
  case round =>
    obtain ⟨k, VV, hk, rfl, HI⟩ := hrel
    by_cases hlt : k < n
    · have hkl : k < xs.length := by have := HL.out; omega
      obtain ⟨x, hxe⟩ : ∃ x : Int, Hid (xs[k] = x) := ⟨_, Lib.hid rfl⟩
      obtain ⟨ab, ao, hA, hc⟩ := (HR.out.below (by rw [hb.out]; exact HI.out.1)).2.2 (by omega)
      have hcell := hc k hlt
      rw [List.getElem?_map, List.getElem?_eq_getElem hkl, hxe.out] at hcell
      simp only [Option.map_some] at hcell
      subst hA
      clear hc
      have hnx : Hid (xs.take (k + 1) = xs.take k ++ [x]) := Lib.hid (by rw [List.take_add_one, List.getElem?_eq_getElem hkl, hxe.out]; rfl)
      obtain ⟨r, hr⟩ : ∃ r, Hid (towI a x t = r) := ⟨_, Lib.hid rfl⟩
      obtain ⟨p1, p2, p3, E, HNEW, HE⟩ : ∃ p1 p2 p3 E : Int, Hid (∀ W, Calls Try.prog 21 #[.int .i64 a, .int .i64 t, .int .i64 x] W fun e w' => e = .returned (.tuple #[.agg #[.int .i64 p1, .int .i64 p2, .int .i64 p3], .int .i64 E]) ∧ Below W.heap.size W w') ∧ Hid ((r = 0 ∧ E = 1) ∨ (r ≠ 0 ∧ E = 0 ∧ p1 = a ∧ p2 = t ∧ p3 = r)) := by
        have h1 := fun W => new_any a t x W
        rw [hr.out] at h1
        by_cases hz : r = 0
        · simp only [if_pos hz] at h1
          exact ⟨_, _, _, _, Lib.hid h1, Lib.hid (.inl ⟨hz, rfl⟩)⟩
        · simp only [if_neg hz] at h1
          exact ⟨_, _, _, _, Lib.hid h1, Lib.hid (.inr ⟨hz, rfl, rfl, rfl, rfl⟩)⟩
      go_wp2_with fail
      refine (HNEW.out _).mono ?_
      rintro e w2 ⟨rfl, hb2⟩
      have HB2 : Hid (Below b w w2 ∧ BkV w2 b VV (ofL a t (xs.take k))) := Lib.hid ⟨HI.out.1.trans (hb2.mono (by have := HI.out.1.size; have := (Array.getElem?_eq_some_iff.1 HI.out.2.1.blk).1; omega)), HI.out.2.1.below hb2⟩
      clear hb2 hcell
      rcases HE.out with ⟨hr0, hE⟩ | ⟨hr0, hE, h1, h2, h3⟩
      · subst hE
        have HBD : Hid (bad a t xs = true) := Lib.hid (by
          unfold bad
          rw [List.any_eq_true]
          exact ⟨x, hxe.out ▸ List.getElem_mem hkl, by rw [hr.out, hr0]; rfl⟩)
        clear hr0
        go_wp2_with fail
        refine bodyPost_ret (v := .tuple #[.pointer none, .int .i64 1]) (by simp [results, Try.results16, go_sem]) rfl ?_
        exact ⟨by rw [hb.out]; exact HB2.out.1.trans ((below_alloc _ _).mono (by have := HB2.out.1.size; have := hb.out; omega)), .inl ⟨.inr (.inr HBD.out), rfl⟩⟩
      · subst hE
        obtain ⟨XB, hXB⟩ : ∃ XB, Hid (w2.heap.size = XB) := ⟨_, Lib.hid rfl⟩
        obtain ⟨w5, hw5⟩ : ∃ w5, Hid (w2.alloc (.cells #[.int .i64 p1, .int .i64 p2, .int .i64 p3] AR) = w5) := ⟨_, Lib.hid rfl⟩
        obtain ⟨LX, hLX⟩ : ∃ LX, Hid (ofL a t (xs.take k) = LX) := ⟨_, Lib.hid rfl⟩
        have hk16 : LX.length = k := by rw [← hLX.out]; simp [ofL]; omega
        have hsm : Hid (LX.length ≤ 16) := Lib.hid (by omega)
        have hV := HB2.out.2
        rw [hLX.out] at hV
        obtain ⟨VA, vc, hVVe⟩ := own_form3 hV.own
        have hVV := Lib.hid hVVe
        have hblt := (Array.getElem?_eq_some_iff.1 hV.blk).1
        have HS0 : Hid (PushB b XB VV LX (p1, p2, p3) false false w5.drew) := Lib.hid (by
          rw [← hw5.out, ← hXB.out]
          have h5 := hV.below (below_alloc w2 (.cells #[.int .i64 p1, .int .i64 p2, .int .i64 p3] AR))
          refine ⟨fun _ => h5.blk, fun _ => h5.own, heap_alloc_new _ _, (fun h => by cases h), by omega, fun hx => ?_, fun hx => ?_⟩
          · have := (own_lt hV.own _ hx).2; omega
          · have := (own_lt hV.own _ hx).1; omega)
        have HFIN : Hid (∀ W v9, Keep (b :: VV.ownBlock.toList) w5.drew W → BkV W b v9 (LX ++ [(p1, p2, p3)]) → (Below b w W ∧ BkV W b v9 (ofL a t (xs.take (k + 1))) ∧ bad a t (xs.take (k + 1)) = false)) := Lib.hid fun W v9 hkp hv9 => by
          have h5 : Below b w w5.drew := by rw [← hw5.out]; exact (HB2.out.1.trans ((below_alloc _ _).mono (by omega))).drew
          refine ⟨h5.trans (hkp.below (by have := h5.size; have := hb.out; omega) (fun x hx => ?_)), ?_, ?_⟩
          · rcases List.mem_cons.1 hx with rfl | hx
            · exact Nat.le_refl _
            · have : VV.ownBlock = some x := by simpa using hx
              have := (own_lt hV.own _ this).1; omega
          · rw [hnx.out]
            have : ofL a t (xs.take k ++ [x]) = LX ++ [(p1, p2, p3)] := by rw [← hLX.out, h1, h2, h3, ← hr.out]; simp [ofL]
            rw [this]
            exact hv9
          · rw [hnx.out]
            unfold bad
            rw [List.any_append]
            have h6 := HI.out.2.2
            unfold bad at h6
            rw [h6]
            simp [hr.out, hr0]
        clear hr0 h1 h2 h3 hV hVVe hk16
        go_wp2_with fail
        rw [hw5.out, hXB.out]
        have hS0 := HS0.out
        refine wp_region_done (fun dnf => PushB b XB VV LX (p1, p2, p3) (dnf 7) (dnf 10)) (fun u v => Keep (b :: VV.ownBlock.toList) u v) (fun k u v => (k = 7 → (fun u v => Keep VV.ownBlock.toList u v) u v) ∧ (k = 10 → (fun u v => Keep [b] u v) u v) ∧ (¬ k = 7 → ¬ k = 10 → (fun u v => Below u.heap.size u v) u v)) (fun a i => match i with
            | 0 => (fun v _ => v = .pointer (some ⟨b, 0, none⟩))
            | 1 => (fun v _ => v = .pointer (some ⟨b, 0, none⟩))
            | 2 => (fun v _ => v = .pointer (some ⟨b, 0, none⟩))
            | 3 => (fun v _ => v = .pointer (some ⟨b, 0, none⟩))
            | 4 => (fun v _ => v = .slice VA LX.length vc)
            | 5 => (fun v _ => v = .agg #[.int .i64 p1, .int .i64 p2, .int .i64 p3])
            | 6 => (fun v W => ∃ j, v = .slice (some ⟨j, 0, none⟩) 1 1 ∧ j < W.heap.size ∧ W.heap[j]? = some (.cells #[.int .i64 p1, .int .i64 p2, .int .i64 p3] AR (0, 0)))
            | 7 => (fun v W => W.ownsRow (b + 1) AR 3 v (LX.length + 1) (LX.flatMap encA ++ encA (p1, p2, p3)))
            | 8 => (fun v _ => v = .pointer (some ⟨b, 0, none⟩))
            | 9 => (fun v _ => v = .pointer (some ⟨b, 0, none⟩))
            | 10 => (fun v W => True)
            | _ => (fun _ _ => True)) #[0, 0, 2, 6, 14, 0, 32, 126, 255, 511, 1023] #[0, 0, 2, 4, 8, 0, 32, 80, 1, 256, 640] 1855 (by kernel_rfl) 11 rfl (fun m hm => by subst hm; kernel_rfl) (by kernel_rfl) (fun w => Keep.refl _ w) (fun u v w h1 h2 => h1.trans h2) ?_ ?_ (hS0) ?_ ?_
        · intro k u v hk hr
          by_cases hs7 : k = 7
          · have h := hr.1 hs7; exact h.mono (by intro x hx; exact List.mem_cons_of_mem _ hx)
          by_cases hs10 : k = 10
          · have h := hr.2.1 hs10; exact h.mono (by simp)
          have h := hr.2.2 hs7 hs10; exact Keep.of_below h
        · intro i hi
          rcases (by omega : i = 0 ∨ i = 1 ∨ i = 2 ∨ i = 3 ∨ i = 4 ∨ i = 5 ∨ i = 6 ∨ i = 7 ∨ i = 8 ∨ i = 9 ∨ i = 10) with rfl | rfl | rfl | rfl | rfl | rfl | rfl | rfl | rfl | rfl | rfl
          · intro k hk y hy hyt v w w' h hr
            exact h
          · intro k hk y hy hyt v w w' h hr
            exact h
          · intro k hk y hy hyt v w w' h hr
            exact h
          · intro k hk y hy hyt v w w' h hr
            exact h
          · intro k hk y hy hyt v w w' h hr
            exact h
          · intro k hk y hy hyt v w w' h hr
            exact h
          · intro k hk y hy hyt v w w' h hr
            by_cases hs7 : k = 7
            · have hr0 := hr.1 hs7
              subst hs7
              exact absurd (hy.trans hyt) (ne_true_of_eq_false (by kernel_rfl))
            by_cases hs10 : k = 10
            · have hr0 := hr.2.1 hs10
              subst hs10
              exact absurd (hy.trans hyt) (ne_true_of_eq_false (by kernel_rfl))
            have hr := hr.2.2 hs7 hs10
            obtain ⟨j, h1, h2, h3⟩ := h; exact ⟨j, h1, Nat.lt_of_lt_of_le h2 hr.size, (hr.block j h2).trans h3⟩
          · intro k hk y hy hyt v w w' h hr
            by_cases hs7 : k = 7
            · have hr0 := hr.1 hs7
              subst hs7
              exact absurd (hy.trans hyt) (ne_true_of_eq_false (by kernel_rfl))
            by_cases hs10 : k = 10
            · have hr0 := hr.2.1 hs10
              subst hs10
              exact absurd (hy.trans hyt) (ne_true_of_eq_false (by kernel_rfl))
            have hr := hr.2.2 hs7 hs10
            exact own_kept h hr
          · intro k hk y hy hyt v w w' h hr
            exact h
          · intro k hk y hy hyt v w w' h hr
            exact h
          · intro k hk y hy hyt v w w' h hr
            by_cases hs7 : k = 7
            · have hr0 := hr.1 hs7
              subst hs7
              exact absurd (hy.trans hyt) (ne_true_of_eq_false (by kernel_rfl))
            by_cases hs10 : k = 10
            · have hr0 := hr.2.1 hs10
              subst hs10
              exact absurd (hy.trans hyt) (ne_true_of_eq_false (by kernel_rfl))
            have hr := hr.2.2 hs7 hs10
            exact trivial
        · intro i hi
          rcases (by omega : i = 0 ∨ i = 1 ∨ i = 2 ∨ i = 3 ∨ i = 4 ∨ i = 5 ∨ i = 6 ∨ i = 7 ∨ i = 8 ∨ i = 9 ∨ i = 10) with rfl | rfl | rfl | rfl | rfl | rfl | rfl | rfl | rfl | rfl | rfl
          · -- 0: Op.move (Operand.tmp 8)
            intro l hl vs W dn e1 e2 e3 hS hR hp
            have f7 : dn 7 = dn 7 := rfl
            have f10 : dn 10 = false := e3 10 (by kernel_rfl)
            replace hS : (PushB b XB VV LX (p1, p2, p3) (dn 7) (dn 10)) W := hS
            rw [f10] at hS
            have g7 : (dn 7 || ((0 : Nat) == 7)) = dn 7 := Bool.or_false _
            have g10 : (dn 10 || ((0 : Nat) == 10)) = false := by rw [f10]; rfl
            refine OpGoal.imp (S1 := PushB b XB VV LX (p1, p2, p3) (dn 7) false) (fun W' h => ?_) ?_
            · show (PushB b XB VV LX (p1, p2, p3) (dn 7 || ((0 : Nat) == 7)) (dn 10 || ((0 : Nat) == 10))) W'
              rw [g7, g10]
              exact h
            clear g7 g10 e1 e2 e3
            obtain rfl : l = [] := hl.symm.trans (by kernel_rfl)
            clear hp hl
            refine opgoal (_) (some 39) rfl rfl fun K hK => ?_
            refine Runs.mk ?_
            simp only [putAll]
            go_simp
            refine hK _ _ ?_ hS ⟨fun h => absurd h (by decide), fun h => absurd h (by decide), fun h7 h10 => ((fun w => Below.refl _ w) W)⟩ _ rfl rfl
            first | rfl | go_simp | simp
          · -- 1: Op.move (Operand.tmp 8)
            intro l hl vs W dn e1 e2 e3 hS hR hp
            have f7 : dn 7 = false := e3 7 (by kernel_rfl)
            have f10 : dn 10 = false := e3 10 (by kernel_rfl)
            replace hS : (PushB b XB VV LX (p1, p2, p3) (dn 7) (dn 10)) W := hS
            rw [f7, f10] at hS
            have g7 : (dn 7 || ((1 : Nat) == 7)) = false := by rw [f7]; rfl
            have g10 : (dn 10 || ((1 : Nat) == 10)) = false := by rw [f10]; rfl
            refine OpGoal.imp (S1 := PushB b XB VV LX (p1, p2, p3) false false) (fun W' h => ?_) ?_
            · show (PushB b XB VV LX (p1, p2, p3) (dn 7 || ((1 : Nat) == 7)) (dn 10 || ((1 : Nat) == 10))) W'
              rw [g7, g10]
              exact h
            clear g7 g10 e1 e2 e3
            obtain rfl : l = [] := hl.symm.trans (by kernel_rfl)
            clear hp hl
            refine opgoal (_) (some 40) rfl rfl fun K hK => ?_
            refine Runs.mk ?_
            simp only [putAll]
            go_simp
            refine hK _ _ ?_ hS ⟨fun h => absurd h (by decide), fun h => absurd h (by decide), fun h7 h10 => ((fun w => Below.refl _ w) W)⟩ _ rfl rfl
            first | rfl | go_simp | simp
          · -- 2: Op.nilCheck (Operand.tmp 40)
            intro l hl vs W dn e1 e2 e3 hS hR hp
            have f7 : dn 7 = false := e3 7 (by kernel_rfl)
            have f10 : dn 10 = false := e3 10 (by kernel_rfl)
            replace hS : (PushB b XB VV LX (p1, p2, p3) (dn 7) (dn 10)) W := hS
            rw [f7, f10] at hS
            have g7 : (dn 7 || ((2 : Nat) == 7)) = false := by rw [f7]; rfl
            have g10 : (dn 10 || ((2 : Nat) == 10)) = false := by rw [f10]; rfl
            refine OpGoal.imp (S1 := PushB b XB VV LX (p1, p2, p3) false false) (fun W' h => ?_) ?_
            · show (PushB b XB VV LX (p1, p2, p3) (dn 7 || ((2 : Nat) == 7)) (dn 10 || ((2 : Nat) == 10))) W'
              rw [g7, g10]
              exact h
            clear g7 g10 e1 e2 e3
            obtain rfl : l = [(1, 40)] := hl.symm.trans (by kernel_rfl)
            have p1 : vs 1 = _ := hp 1 (by decide) (by decide)
            clear hp hl
            refine opgoal (_) (some 41) rfl rfl fun K hK => ?_
            refine Runs.mk ?_
            simp only [putAll]
            go_simp
            refine hK _ _ ?_ hS ⟨fun h => absurd h (by decide), fun h => absurd h (by decide), fun h7 h10 => ((fun w => Below.refl _ w) W)⟩ _ rfl rfl
            first | rfl | go_simp | simp
          · -- 3: Op.fieldAddr 67 (Operand.tmp 41) 0
            intro l hl vs W dn e1 e2 e3 hS hR hp
            have f7 : dn 7 = false := e3 7 (by kernel_rfl)
            have f10 : dn 10 = false := e3 10 (by kernel_rfl)
            replace hS : (PushB b XB VV LX (p1, p2, p3) (dn 7) (dn 10)) W := hS
            rw [f7, f10] at hS
            have g7 : (dn 7 || ((3 : Nat) == 7)) = false := by rw [f7]; rfl
            have g10 : (dn 10 || ((3 : Nat) == 10)) = false := by rw [f10]; rfl
            refine OpGoal.imp (S1 := PushB b XB VV LX (p1, p2, p3) false false) (fun W' h => ?_) ?_
            · show (PushB b XB VV LX (p1, p2, p3) (dn 7 || ((3 : Nat) == 7)) (dn 10 || ((3 : Nat) == 10))) W'
              rw [g7, g10]
              exact h
            clear g7 g10 e1 e2 e3
            obtain rfl : l = [(1, 40), (2, 41)] := hl.symm.trans (by kernel_rfl)
            have p2 : vs 2 = _ := hp 2 (by decide) (by decide)
            clear hp hl
            refine opgoal (_) (some 42) rfl rfl fun K hK => ?_
            refine Runs.mk ?_
            simp only [putAll]
            go_simp
            refine hK _ _ ?_ hS ⟨fun h => absurd h (by decide), fun h => absurd h (by decide), fun h7 h10 => ((fun w => Below.refl _ w) W)⟩ _ rfl rfl
            first | rfl | go_simp | simp
          · -- 4: Op.load 24 (Operand.tmp 42)
            intro l hl vs W dn e1 e2 e3 hS hR hp
            have f7 : dn 7 = false := e3 7 (by kernel_rfl)
            have f10 : dn 10 = false := e3 10 (by kernel_rfl)
            replace hS : (PushB b XB VV LX (p1, p2, p3) (dn 7) (dn 10)) W := hS
            rw [f7, f10] at hS
            have g7 : (dn 7 || ((4 : Nat) == 7)) = false := by rw [f7]; rfl
            have g10 : (dn 10 || ((4 : Nat) == 10)) = false := by rw [f10]; rfl
            refine OpGoal.imp (S1 := PushB b XB VV LX (p1, p2, p3) false false) (fun W' h => ?_) ?_
            · show (PushB b XB VV LX (p1, p2, p3) (dn 7 || ((4 : Nat) == 7)) (dn 10 || ((4 : Nat) == 10))) W'
              rw [g7, g10]
              exact h
            clear g7 g10 e1 e2 e3
            obtain rfl : l = [(1, 40), (2, 41), (3, 42)] := hl.symm.trans (by kernel_rfl)
            have p3 : vs 3 = _ := hp 3 (by decide) (by decide)
            clear hp hl
            refine opgoal (_) (some 43) rfl rfl fun K hK => ?_
            have hc1 : W.cell? ⟨b, 0, none⟩ = some VV := hS.cell rfl
            rw [hVV.out] at hc1
            refine Runs.mk ?_
            simp only [putAll]
            go_simp
            refine hK _ _ ?_ hS ⟨fun h => absurd h (by decide), fun h => absurd h (by decide), fun h7 h10 => ((fun w => Below.refl _ w) W)⟩ _ rfl rfl
            first | rfl | go_simp | simp
          · -- 5: Op.load 29 (Operand.tmp 11)
            intro l hl vs W dn e1 e2 e3 hS hR hp
            have f7 : dn 7 = false := e3 7 (by kernel_rfl)
            have f10 : dn 10 = false := e3 10 (by kernel_rfl)
            replace hS : (PushB b XB VV LX (p1, p2, p3) (dn 7) (dn 10)) W := hS
            rw [f7, f10] at hS
            have g7 : (dn 7 || ((5 : Nat) == 7)) = false := by rw [f7]; rfl
            have g10 : (dn 10 || ((5 : Nat) == 10)) = false := by rw [f10]; rfl
            refine OpGoal.imp (S1 := PushB b XB VV LX (p1, p2, p3) false false) (fun W' h => ?_) ?_
            · show (PushB b XB VV LX (p1, p2, p3) (dn 7 || ((5 : Nat) == 7)) (dn 10 || ((5 : Nat) == 10))) W'
              rw [g7, g10]
              exact h
            clear g7 g10 e1 e2 e3
            obtain rfl : l = [] := hl.symm.trans (by kernel_rfl)
            clear hp hl
            refine opgoal (_) (some 44) rfl rfl fun K hK => ?_
            obtain ⟨c0, c1, c2⟩ := hS.cells
            dsimp only at c0 c1 c2
            refine Runs.mk ?_
            simp only [putAll]
            go_simp
            refine hK _ _ ?_ hS ⟨fun h => absurd h (by decide), fun h => absurd h (by decide), fun h7 h10 => ((fun w => Below.refl _ w) W)⟩ _ rfl rfl
            first | rfl | go_simp | simp
          · -- 6: Op.buildSlice 24 1 #[(0, Operand.tmp 44)]
            intro l hl vs W dn e1 e2 e3 hS hR hp
            have f7 : dn 7 = false := e3 7 (by kernel_rfl)
            have f10 : dn 10 = false := e3 10 (by kernel_rfl)
            replace hS : (PushB b XB VV LX (p1, p2, p3) (dn 7) (dn 10)) W := hS
            rw [f7, f10] at hS
            have g7 : (dn 7 || ((6 : Nat) == 7)) = false := by rw [f7]; rfl
            have g10 : (dn 10 || ((6 : Nat) == 10)) = false := by rw [f10]; rfl
            refine OpGoal.imp (S1 := PushB b XB VV LX (p1, p2, p3) false false) (fun W' h => ?_) ?_
            · show (PushB b XB VV LX (p1, p2, p3) (dn 7 || ((6 : Nat) == 7)) (dn 10 || ((6 : Nat) == 10))) W'
              rw [g7, g10]
              exact h
            clear g7 g10 e1 e2 e3
            obtain rfl : l = [(5, 44)] := hl.symm.trans (by kernel_rfl)
            have p5 : vs 5 = _ := hp 5 (by decide) (by decide)
            clear hp hl
            refine opgoal (_) (some 45) rfl rfl fun K hK => ?_
            refine Runs.mk ?_
            simp only [putAll]
            go_simp
            have hb := below_alloc W (.cells #[.int .i64 p1, .int .i64 p2, .int .i64 p3] AR)
            exact hK _ _ ⟨W.heap.size, rfl, by simp, heap_alloc_new _ _⟩ (hS.below hb) ⟨(fun h => absurd h (by decide)), (fun h => absurd h (by decide)), fun h7 h10 => hb⟩ _ rfl rfl
          · -- 7: Op.call { callee := Callee.builtin Builtin.append, args := #[Operand.tmp 43, Operand.tmp 45], argTypes := #[24, 24] }
            intro l hl vs W dn e1 e2 e3 hS hR hp
            have f7 : dn 7 = false := e1
            have f10 : dn 10 = false := e3 10 (by kernel_rfl)
            replace hS : (PushB b XB VV LX (p1, p2, p3) (dn 7) (dn 10)) W := hS
            rw [f7, f10] at hS
            have g7 : (dn 7 || ((7 : Nat) == 7)) = true := by rw [f7]; rfl
            have g10 : (dn 10 || ((7 : Nat) == 10)) = false := by rw [f10]; rfl
            refine OpGoal.imp (S1 := PushB b XB VV LX (p1, p2, p3) true false) (fun W' h => ?_) ?_
            · show (PushB b XB VV LX (p1, p2, p3) (dn 7 || ((7 : Nat) == 7)) (dn 10 || ((7 : Nat) == 10))) W'
              rw [g7, g10]
              exact h
            clear g7 g10 e1 e2 e3
            obtain rfl : l = [(1, 40), (2, 41), (3, 42), (4, 43), (5, 44), (6, 45)] := hl.symm.trans (by kernel_rfl)
            have p4 : vs 4 = _ := hp 4 (by decide) (by decide)
            have p6 : (fun v W => ∃ j, v = .slice (some ⟨j, 0, none⟩) 1 1 ∧ j < W.heap.size ∧ W.heap[j]? = some (.cells #[.int .i64 p1, .int .i64 p2, .int .i64 p3] AR (0, 0))) (vs 6) W := hp 6 (by decide) (by decide)
            dsimp only at p6
            clear hp hl
            obtain ⟨j, q6, l6, b6⟩ := p6
            refine opgoal ({ dst := some 46, op := Op.call { callee := Callee.builtin Builtin.append, args := #[Operand.tmp 43, Operand.tmp 45], argTypes := #[24, 24] }, type := 24, pos := "arrow.go:65", after := #[{ on := 4, ground := Ground.data }, { on := 6, ground := Ground.data }], guard := none }) (some 46) rfl rfl fun K hK => ?_
            refine runs_append_src W (wanted_none rfl) (.tmp 43) (.tmp 45) (b + 1) 24 AR (.agg #[.int .i64 0, .int .i64 0, .int .i64 0]) 3 24 rfl (by kernel_rfl) (by kernel_rfl) rfl (by decide) (by decide) VV LX.length (LX.flatMap encA) (by simp [putAll, Act.put, Act.eval, p4, hVV.out]) (hS.own rfl) (some ⟨j, 0, none⟩) 1 1 (by simp [putAll, Act.put, Act.eval, q6]) (fun h => by cases h) [.int .i64 p1, .int .i64 p2, .int .i64 p3] rfl (lies_block b6) (by simp [Value.oneCell']) (by have := hsm.out; omega) (Nat.succ_le_of_lt (hS.lt rfl)) ?_
            intro v' w' h1 h2 h3
            have hkk : Keep VV.ownBlock.toList W w' := keep_grown h2 _ (fun j hj _ => by simp [hj])
            exact hK _ _ h1 (hS.app hkk) ⟨(fun _ => hkk), (fun h => absurd h (by decide)), fun h7 h10 => absurd rfl h7⟩ _ put_dfs (put_slot (by simp))
          · -- 8: Op.nilCheck (Operand.tmp 39)
            intro l hl vs W dn e1 e2 e3 hS hR hp
            have f7 : dn 7 = true := e2 7 (by kernel_rfl)
            have f10 : dn 10 = false := e3 10 (by kernel_rfl)
            replace hS : (PushB b XB VV LX (p1, p2, p3) (dn 7) (dn 10)) W := hS
            rw [f7, f10] at hS
            have g7 : (dn 7 || ((8 : Nat) == 7)) = true := by rw [f7]; rfl
            have g10 : (dn 10 || ((8 : Nat) == 10)) = false := by rw [f10]; rfl
            refine OpGoal.imp (S1 := PushB b XB VV LX (p1, p2, p3) true false) (fun W' h => ?_) ?_
            · show (PushB b XB VV LX (p1, p2, p3) (dn 7 || ((8 : Nat) == 7)) (dn 10 || ((8 : Nat) == 10))) W'
              rw [g7, g10]
              exact h
            clear g7 g10 e1 e2 e3
            obtain rfl : l = [(0, 39), (1, 40), (2, 41), (3, 42), (4, 43), (5, 44), (6, 45), (7, 46)] := hl.symm.trans (by kernel_rfl)
            have p0 : vs 0 = _ := hp 0 (by decide) (by decide)
            clear hp hl
            refine opgoal (_) (some 47) rfl rfl fun K hK => ?_
            refine Runs.mk ?_
            simp only [putAll]
            go_simp
            refine hK _ _ ?_ hS ⟨fun h => absurd h (by decide), fun h => absurd h (by decide), fun h7 h10 => ((fun w => Below.refl _ w) W)⟩ _ rfl rfl
            first | rfl | go_simp | simp
          · -- 9: Op.fieldAddr 67 (Operand.tmp 47) 0
            intro l hl vs W dn e1 e2 e3 hS hR hp
            have f7 : dn 7 = true := e2 7 (by kernel_rfl)
            have f10 : dn 10 = false := e3 10 (by kernel_rfl)
            replace hS : (PushB b XB VV LX (p1, p2, p3) (dn 7) (dn 10)) W := hS
            rw [f7, f10] at hS
            have g7 : (dn 7 || ((9 : Nat) == 7)) = true := by rw [f7]; rfl
            have g10 : (dn 10 || ((9 : Nat) == 10)) = false := by rw [f10]; rfl
            refine OpGoal.imp (S1 := PushB b XB VV LX (p1, p2, p3) true false) (fun W' h => ?_) ?_
            · show (PushB b XB VV LX (p1, p2, p3) (dn 7 || ((9 : Nat) == 7)) (dn 10 || ((9 : Nat) == 10))) W'
              rw [g7, g10]
              exact h
            clear g7 g10 e1 e2 e3
            obtain rfl : l = [(0, 39), (1, 40), (2, 41), (3, 42), (4, 43), (5, 44), (6, 45), (7, 46), (8, 47)] := hl.symm.trans (by kernel_rfl)
            have p8 : vs 8 = _ := hp 8 (by decide) (by decide)
            clear hp hl
            refine opgoal (_) (some 48) rfl rfl fun K hK => ?_
            refine Runs.mk ?_
            simp only [putAll]
            go_simp
            refine hK _ _ ?_ hS ⟨fun h => absurd h (by decide), fun h => absurd h (by decide), fun h7 h10 => ((fun w => Below.refl _ w) W)⟩ _ rfl rfl
            first | rfl | go_simp | simp
          · -- 10: Op.store 24 (Operand.tmp 48) (Operand.tmp 46)
            intro l hl vs W dn e1 e2 e3 hS hR hp
            have f7 : dn 7 = true := e2 7 (by kernel_rfl)
            have f10 : dn 10 = false := e1
            replace hS : (PushB b XB VV LX (p1, p2, p3) (dn 7) (dn 10)) W := hS
            rw [f7, f10] at hS
            have g7 : (dn 7 || ((10 : Nat) == 7)) = true := by rw [f7]; rfl
            have g10 : (dn 10 || ((10 : Nat) == 10)) = true := by rw [f10]; rfl
            refine OpGoal.imp (S1 := PushB b XB VV LX (p1, p2, p3) true true) (fun W' h => ?_) ?_
            · show (PushB b XB VV LX (p1, p2, p3) (dn 7 || ((10 : Nat) == 7)) (dn 10 || ((10 : Nat) == 10))) W'
              rw [g7, g10]
              exact h
            clear g7 g10 e1 e2 e3
            obtain rfl : l = [(0, 39), (1, 40), (2, 41), (3, 42), (4, 43), (5, 44), (6, 45), (7, 46), (8, 47), (9, 48)] := hl.symm.trans (by kernel_rfl)
            have p7 : (fun v W => W.ownsRow (b + 1) AR 3 v (LX.length + 1) (LX.flatMap encA ++ encA (p1, p2, p3))) (vs 7) W := hp 7 (by decide) (by decide)
            dsimp only at p7
            have p9 : vs 9 = _ := hp 9 (by decide) (by decide)
            clear hp hl
            refine opgoal (_) (none) rfl rfl fun K hK => ?_
            obtain ⟨A', c', q7⟩ := own_form3 p7
            rw [q7] at p7
            have hc1 : W.cell? ⟨b, 0, none⟩ = some VV := hS.cell rfl
            have hf1 : W.frozen? ⟨b, 0, none⟩ = false := frozen_of_row W _ _ _ _ (hS.blk rfl)
            refine Runs.mk ?_
            simp only [putAll]
            go_simp
            exact hK undef _ trivial (hS.fin p7) ⟨(fun h => absurd h (by decide)), (fun _ => (Keep.refl _ _).setCell (p := ⟨b, 0, none⟩) (.inl (by simp)) _), fun h7 h10 => absurd rfl h10⟩ _ rfl rfl
        · intro l hl vs W dn hd hS hR hp
          replace hS : (PushB b XB VV LX (p1, p2, p3) (dn 7) (dn 10)) W := hS
          rw [hd 7 (by decide), hd 10 (by decide)] at hS
          obtain rfl : l = [(0, 39), (1, 40), (2, 41), (3, 42), (4, 43), (5, 44), (6, 45), (7, 46), (8, 47), (9, 48)] := hl.symm.trans (by kernel_rfl)
          have p0 : vs 0 = _ := hp 0 (by decide) (by decide)
          have p1 : vs 1 = _ := hp 1 (by decide) (by decide)
          have p2 : vs 2 = _ := hp 2 (by decide) (by decide)
          have p3 : vs 3 = _ := hp 3 (by decide) (by decide)
          have p4 : vs 4 = _ := hp 4 (by decide) (by decide)
          have p5 : vs 5 = _ := hp 5 (by decide) (by decide)
          have p8 : vs 8 = _ := hp 8 (by decide) (by decide)
          have p9 : vs 9 = _ := hp 9 (by decide) (by decide)
          have p10 : (fun v W => True) (vs 10) W := hp 10 (by decide) (by decide)
          dsimp only at p10
          clear hp hl
          simp only [putAll_mk, setAll, List.setIfInBounds_toArray, List.set_cons_succ, List.set_cons_zero, p0, p1, p2, p3, p4, p5, p8, p9]
          have HS := Lib.hid hS
          have HR := Lib.hid hR
          clear hS hR p10
          obtain ⟨W9, hW9⟩ : ∃ W9, Hid (W = W9) := ⟨_, Lib.hid rfl⟩
          rw [hW9.out] at HS HR ⊢
          obtain ⟨v9, hv9⟩ := HS.out.last rfl
          have HFN := Lib.hid (HFIN.out W9 v9 HR.out hv9)
          clear hv9
          go_wp2_with fail
          go_roundw
          case rel => exact ⟨k + 1, v9, by omega, by go_num, HFN⟩
          case measure => simp [intOf]; omega
    · obtain rfl : k = n := by omega
      rw [List.take_of_length_le (by have := HL.out; omega)] at HI
      go_wp2_with fail
      refine bodyPost_ret (v := .tuple #[.pointer (some ⟨b, 0, none⟩), .int .i64 0]) (by simp [results, Try.results16, go_sem]) rfl ?_
      have hv := HI.out.2.1
      have hlo : (ofL a t xs).length = k := by have := HL.out; simp [ofL]; omega
      obtain ⟨g, cc, hve⟩ : ∃ g cc, VV = .slice (some ⟨g, 0, none⟩) (ofL a t xs).length cc := by
        rcases hv.own.2 with ⟨_, hn⟩ | ⟨g, cap, cur, hv, _⟩
        · omega
        · exact ⟨g, cap, hv⟩
      rw [hve] at hv
      have := HL.out
      exact ⟨by rw [hb.out]; exact HI.out.1, .inr ⟨by omega, by omega, HI.out.2.2, b, g, cc, rfl, by have := hb.out; omega, ⟨hv.blk, hv.own⟩⟩⟩
end Go.Proofs.Ytmddcmfleipjjaa.Ar

/- wheel: Set. -/
import Derived.Test.YtbifmdepkbgnjaaWhC
import Derived.Test.YtbifmdepkbgnjaaD
import Derived.Test.YtbifmdepkbgnjaaQ
namespace Go.Proofs.Ytbifmdepkbgnjaa.Wh
open Go.RowKit Go.Proofs.Ytbifmdepkbgnjaa.L Go.Proofs.Ytbifmdepkbgnjaa.R Go.Proofs.Ytbifmdepkbgnjaa.A Go.Proofs.Ytbifmdepkbgnjaa.S Go.Proofs.Ytbifmdepkbgnjaa.T Go.Proofs.Ytbifmdepkbgnjaa.C Go.Proofs.Ytbifmdepkbgnjaa.G Go.Proofs.Ytbifmdepkbgnjaa.E Go.Proofs.Ytbifmdepkbgnjaa.F
set_option linter.unusedVariables false
set_option linter.unusedSimpArgs false

theorem own_formN {w : World} {base n sz : Nat} {e : TypeId} {v : Value} {xs : List Value} (h : w.ownsRow base e sz v n xs) : ∃ A c, v = .slice A n c := by
  rcases h.2 with ⟨hv, hn⟩ | ⟨g, cap, cur, hv, _⟩
  · exact ⟨none, 0, by rw [hv, hn]⟩
  · exact ⟨some ⟨g, 0, none⟩, cap, hv⟩
structure PushW (sz b : Nat) (now : Int) (x : Nat) (v0 : Value) (L : List Tm) (k : Ky) (d : Int) (f7 f10 : Bool) (W : World) : Prop where
  blk : f10 = false → W.heap[b]? = some (.cells #[.int .i64 now, v0] WT (0, 0))
  own : f7 = false → W.ownsRow (b + 1) TM 7 v0 L.length (L.flatMap encT)
  ent : KB W x k
  last : f10 = true → ∃ v, Wh W b now v (L ++ [mkT k d]) ∧ (v.ownBlock = v0.ownBlock ∨ ∀ j, v.ownBlock = some j → sz ≤ j)
  szw : sz ≤ W.heap.size
  bx : x ≠ b
  gx : v0.ownBlock ≠ some x
  gb : v0.ownBlock ≠ some b
section
variable {W W' : World} {sz b x : Nat} {now d : Int} {v v0 : Value} {L : List Tm} {k : Ky} {f7 f10 : Bool}
theorem PushW.cell (h : PushW sz b now x v0 L k d f7 f10 W) (hf : f10 = false) : W.cell? ⟨b, 0, none⟩ = some (.int .i64 now) ∧ W.cell? ⟨b, 1, none⟩ = some v0 :=
  ⟨by rw [cell_of_row W b 0 _ _ _ (h.blk hf)]; rfl, by rw [cell_of_row W b 1 _ _ _ (h.blk hf)]; rfl⟩
theorem PushW.lt (h : PushW sz b now x v0 L k d f7 f10 W) (hf : f10 = false) : b < W.heap.size := (Array.getElem?_eq_some_iff.1 (h.blk hf)).1
theorem PushW.below (h : PushW sz b now x v0 L k d f7 f10 W) (hb : Below W.heap.size W W') : PushW sz b now x v0 L k d f7 f10 W' := by
  have hk : Keep [] W W' := .of_below hb
  exact ⟨fun hf => keep_block hk (h.blk hf) (by simp), fun hf => own_kept (h.own hf) hb, h.ent.below hb, fun hf => (by obtain ⟨v, hc, hv⟩ := h.last hf; exact ⟨v, hc.below hb, hv⟩), Nat.le_trans h.szw hk.size, h.bx, h.gx, h.gb⟩
theorem PushW.app (h : PushW sz b now x v0 L k d false false W) (hk : Keep v0.ownBlock.toList W W') : PushW sz b now x v0 L k d true false W' := by
  have hb : b ∉ v0.ownBlock.toList := fun hm => h.gb (by simpa using hm)
  have hx : x ∉ v0.ownBlock.toList := fun hm => h.gx (by simpa using hm)
  exact ⟨fun hf => keep_block hk (h.blk rfl) hb, (fun h => by cases h), h.ent.keep hk hx, (fun h => by cases h), Nat.le_trans h.szw hk.size, h.bx, h.gx, h.gb⟩
theorem PushW.fin (h : PushW sz b now x v0 L k d true false W) (ho : W.ownsRow (b + 1) TM 7 v (L.length + 1) (L.flatMap encT ++ encT (mkT k d))) (hv : v.ownBlock = v0.ownBlock ∨ ∀ j, v.ownBlock = some j → sz ≤ j) : PushW sz b now x v0 L k d true true (W.setCell ⟨b, 1, none⟩ v) := by
  have hk : Keep [b] W (W.setCell ⟨b, 1, none⟩ v) := (Keep.refl _ _).setCell (p := ⟨b, 1, none⟩) (.inl (by simp)) _
  have hx : x ∉ [b] := by have := h.bx; simpa using this
  have ho' : W.ownsRow (b + 1) TM 7 v (L ++ [mkT k d]).length ((L ++ [mkT k d]).flatMap encT) := by rw [List.length_append, List.flatMap_append]; simpa using ho
  exact ⟨(fun h => by cases h), (fun h => by cases h), h.ent.keep hk hx, (fun _ => ⟨v, ⟨(Go.Proofs.Ytbifmdepkbgnjaa.L.heap_setCell_at W b 1 _ _ _ v (h.blk rfl)).trans rfl, own_keep ho' hk (fun k hk => by have := (own_lt ho k hk).1; simp; omega)⟩, hv⟩), Nat.le_trans h.szw hk.size, h.bx, h.gx, h.gb⟩
end
theorem any_idx {k : Ky} {L : List Tm} : decide (0 ≤ idx (isK k) L) = L.any (isK k) := idx_any
set_option maxHeartbeats 8000000 in
set_option maxRecDepth 100000 in
theorem set_ok (b : Nat) (now : Int) (v : Value) (L : List Tm) (k : Ky) (after : Int) (w : World) (h : Wh w b now v L) (hsm' : L.length ≤ 256) (ha : 1 ≤ after ∧ after ≤ 1000) (hnow : 0 ≤ now ∧ now ≤ 1099511627776) (hroom : L.any (isK k) = true ∨ L.length < 256) :
    Calls Try.prog 9 #[.pointer (some ⟨b, 0, none⟩), aggK k, .int .i64 after] w fun e w' => e = .returned (.int .i64 0) ∧ Goes b v now (dropT [k] L ++ [mkT k (now + after)]) w w' := by
  obtain ⟨XB, hXB⟩ : ∃ XB, Hid (w.heap.size = XB) := ⟨_, Lib.hid rfl⟩
  obtain ⟨W0, hW0⟩ : ∃ W0, Hid (w.alloc (.cells (encK k).toArray KT) = W0) := ⟨_, Lib.hid rfl⟩
  have hb0 : Below w.heap.size w W0 := by rw [← hW0.out]; exact below_alloc _ _
  have hkb : KB W0 XB k := by rw [← hW0.out, ← hXB.out]; exact heap_alloc_new _ _
  have h0 := h.below hb0
  have HFI := Lib.hid (find_any b now v L k W0 h0)
  obtain ⟨q, hq⟩ : ∃ q, idx (isK k) L = q := ⟨_, rfl⟩
  rw [hq] at HFI
  have hqr : 0 ≤ q ∨ (q < 0 ∧ L.length < 256) := by
    have e := any_idx (k := k) (L := L)
    rw [hq] at e
    rcases hroom with h | h
    · rw [h] at e; exact .inl (by simpa using e)
    · by_cases hq0 : 0 ≤ q
      · exact .inl hq0
      · exact .inr ⟨by omega, h⟩
  have hlt := h.lt
  have HH : Hid (∀ W, Below w.heap.size w W → Wh W b now v L) := Lib.hid fun W hb => h.below hb
  have HNE := Lib.hid h.ne
  have HB0 := Lib.hid hb0
  obtain ⟨VA, vc, hVV0, -, -, -⟩ := h.rd
  have hbx : XB ≠ b := by have := hXB.out; omega
  have hvx : v.ownBlock ≠ some XB := fun e => by have := (HNE.out _ e).2; have := hXB.out; omega
  obtain ⟨LL, hLL⟩ : ∃ LL, L.length = LL := ⟨_, rfl⟩
  have HLL := Lib.hid hLL
  have HVX := Lib.hid (And.intro hbx hvx)
  have HKB : Hid (∀ W, Below W0.heap.size W0 W → KB W XB k) := Lib.hid fun W hb => hkb.below hb
  obtain ⟨dd, hdd⟩ : ∃ dd, now + after = dd := ⟨_, rfl⟩
  have HDD : Hid (IntKind.i64.wrap (now + after) = dd) := Lib.hid (by rw [IntKind.wrap_i64, ← hdd]; omega)
  rw [hdd]
  have d1 : decide (after < 1) = false := by simp; omega
  have d2 : decide ((1000 : Int) < after) = false := by simp; omega
  have c1 : ∀ W, Below w.heap.size w W → W.cell? ⟨b, 1, none⟩ = some (.slice VA LL vc) := fun W hb => by rw [(HH.out W hb).cell.2.1, hVV0, hLL]
  have HC1 := Lib.hid c1
  rw [hLL] at hqr hsm'
  have HKK : Hid (∀ W, KB W XB k → W.cell? ⟨XB, 0, none⟩ = some (.int .i64 k.1) ∧ W.cell? ⟨XB, 1, none⟩ = some (.int .i64 k.2.1) ∧ W.cell? ⟨XB, 2, none⟩ = some (.int .i64 k.2.2.1) ∧ W.cell? ⟨XB, 3, none⟩ = some (.int .i64 k.2.2.2.1) ∧ W.cell? ⟨XB, 4, none⟩ = some (.int .i64 k.2.2.2.2.1) ∧ W.cell? ⟨XB, 5, none⟩ = some (.int .i64 k.2.2.2.2.2)) := Lib.hid fun W h => h.cells
  have HST : Hid (∀ W w9, Wh W b now v L → KB W w9 k → w9 ≠ b → v.ownBlock ≠ some w9 → Calls Try.prog 10 #[.pointer (some ⟨b, 0, none⟩), .slice (some ⟨w9, 0, none⟩) 1 1] W fun e w' => e = .returned (.int .i64 ((L.length : Int) - (dropT [k] L).length)) ∧ Goes b v now (dropT [k] L) W w') := Lib.hid fun W w9 hw hk hn hv => by
    refine stop_any b now v L (some ⟨w9, 0, none⟩) 1 1 [k] W hw (by omega) ⟨rfl, by omega, by simp [encK], fun _ => ⟨w9, 0, rfl, fun i hi j hj => ?_⟩⟩ (fun _ o ho => by cases ho; exact hv)
    obtain rfl : i = 0 := by omega
    obtain ⟨k0, k1, k2, k3, k4, k5⟩ := hk.cells
    match j, hj with
    | 0, _ => exact k0
    | 1, _ => exact k1
    | 2, _ => exact k2
    | 3, _ => exact k3
    | 4, _ => exact k4
    | 5, _ => exact k5
  obtain ⟨LX, hLX⟩ : ∃ LX, Hid (dropT [k] L = LX) := ⟨_, Lib.hid rfl⟩
  have hsm : Hid (LX.length ≤ 256) := Lib.hid (by rw [← hLX.out]; have : (dropT [k] L).length ≤ L.length := List.length_filter_le _ _; omega)
  rw [hLX.out] at HST ⊢
  obtain ⟨nst, hnst⟩ : ∃ nst : Int, ((L.length : Int) - LX.length) = nst := ⟨_, rfl⟩
  rw [hnst] at HST
  have hcc := hkb.cells
  clear h h0 hb0 hkb hq hroom hlt hbx hvx hVV0 hLL hdd c1 hnst
  obtain ⟨a1, a2, a3, a4, a5, a6⟩ := k
  dsimp only [encK, aggK] at hW0 HFI HKK hcc ⊢
  obtain ⟨k0, k1, k2, k3, k4, k5⟩ := hcc
  go_enter Try.func9, Try.ntmps9
  go_wp2_with fail
  rw [hW0.out, hXB.out]
  refine HFI.out.mono ?_
  rintro e w1 ⟨rfl, hb1⟩
  have HB1 := Lib.hid hb1
  obtain ⟨k0, k1, k2, k3, k4, k5⟩ := HKK.out w1 (HKB.out w1 hb1)
  have hc1 := HC1.out w1 (below2 HB0.out hb1)
  clear hb1
  have key : ∃ sq : Bool, decide (q < 0) = sq ∧ (sq = true → decide ((256 : Int) ≤ (LL : Int)) = false ∧ decide (256 ≤ LL) = false) := by
    rcases hqr with h | ⟨h1, h2⟩
    · exact ⟨false, by simpa using h, fun h => by cases h⟩
    · exact ⟨true, by simpa using h1, fun _ => ⟨by simp; omega, by simp; omega⟩⟩
  obtain ⟨sq, hsq, hfull⟩ := key
  clear hqr
  obtain ⟨KB1, hKB1⟩ : ∃ KB1, Hid (w1.heap.size = KB1) := ⟨_, Lib.hid rfl⟩
  obtain ⟨w2, hw2⟩ : ∃ w2, Hid (w1.alloc (.cells #[.int .i64 a1, .int .i64 a2, .int .i64 a3, .int .i64 a4, .int .i64 a5, .int .i64 a6] KT) = w2) := ⟨_, Lib.hid rfl⟩
  have hb2 : Below w1.heap.size w1 w2 := by rw [← hw2.out]; exact below_alloc _ _
  have hkb2 : KB w2 KB1 (a1, a2, a3, a4, a5, a6) := by rw [← hw2.out, ← hKB1.out]; exact heap_alloc_new _ _
  have hb02 := below2 HB0.out (below2 HB1.out hb2)
  have HS2 := Lib.hid (HST.out w2 KB1 (HH.out w2 hb02) hkb2 (by have := hKB1.out; have := (HH.out w1 (below2 HB0.out HB1.out)).lt; omega) (fun e => by have := ((HH.out w1 (below2 HB0.out HB1.out)).ne _ e).2; have := hKB1.out; omega))
  have HB02 := Lib.hid hb02
  have HKB2 : Hid (KB w2 XB (a1, a2, a3, a4, a5, a6)) := Lib.hid ((HKB.out w1 HB1.out).below hb2)
  clear hb2 hkb2 hb02
  cases sq with
  | true =>
    obtain ⟨hf1, hf2⟩ := hfull rfl
    go_wp2_with (rw [hw2.out, hKB1.out])
    refine HS2.out.mono ?_
    rintro e w3 ⟨rfl, hg3⟩
    obtain ⟨VV, h3, hch⟩ := hg3
    obtain ⟨VA3, vc, hVVe⟩ := own_formN h3.own
    obtain ⟨VA, hVA⟩ : ∃ VA, VA3 = VA := ⟨_, rfl⟩
    rw [hVA] at hVVe
    have hVV := Lib.hid hVVe
    obtain ⟨SZ, hSZ⟩ : ∃ SZ, Hid (w3.heap.size = SZ) := ⟨_, Lib.hid rfl⟩
    have hxs : XB ∉ (b :: v.ownBlock.toList : List Nat) := fun hm => by
      rcases List.mem_cons.1 hm with e | e
      · exact HVX.out.1 e
      · exact HVX.out.2 (by simpa using e)
    have hk3 : KB w3 XB (a1, a2, a3, a4, a5, a6) := HKB2.out.keep hch.keep hxs
    have HS0 : Hid (PushW SZ b now XB VV LX (a1, a2, a3, a4, a5, a6) dd false false w3.drew) := Lib.hid (by
      refine ⟨fun _ => h3.blk, fun _ => h3.own, hk3, (fun h => by cases h), by have := hSZ.out; show SZ ≤ w3.heap.size; omega, HVX.out.1, fun hx => ?_, fun hx => by have := (h3.ne _ hx).1; omega⟩
      rcases hch.row with e | e
      · exact HVX.out.2 (e ▸ hx)
      · have := e _ hx
        have hz := (Array.getElem?_eq_some_iff.1 HKB2.out).1
        omega)
    have HFIN : Hid (∀ W, PushW SZ b now XB VV LX (a1, a2, a3, a4, a5, a6) dd true true W → Keep (b :: VV.ownBlock.toList) w3.drew W → Goes b v now (LX ++ [mkT (a1, a2, a3, a4, a5, a6) dd]) w W) := Lib.hid fun W hs hk => by
      obtain ⟨v9, h9, hv9⟩ := hs.last rfl
      have h1 : Chg b v w VV w3 := (Chg.of_below HB02.out).trans hch
      have h2 : Chg b VV w3 v9 W := ⟨(Keep.of_below (below_drewN 1 w3)).trans hk, hv9.elim .inl fun h => .inr fun k hk => by rw [hSZ.out]; exact h k hk⟩
      exact ⟨v9, h9, h1.trans h2⟩
    clear hVVe hch hk3 hxs
    go_wp2_with fail
    have hS0 := HS0.out
    clear h3 hVA
    refine wp_region_done (fun dnf => PushW SZ b now XB VV LX (a1, a2, a3, a4, a5, a6) dd (dnf 14) (dnf 17)) (fun u v => Keep (b :: VV.ownBlock.toList) u v) (fun k u v => (k = 14 → (fun u v => Keep VV.ownBlock.toList u v) u v) ∧ (k = 17 → (fun u v => Keep [b] u v) u v) ∧ (¬ k = 14 → ¬ k = 17 → (fun u v => Below u.heap.size u v) u v)) (fun a i => match i with
        | 0 => (fun v _ => v = .pointer (some ⟨b, 0, none⟩))
        | 1 => (fun v _ => v = .pointer (some ⟨b, 0, none⟩))
        | 2 => (fun v _ => v = .pointer (some ⟨b, 0, none⟩))
        | 3 => (fun v _ => v = .pointer (some ⟨b, 1, none⟩))
        | 4 => (fun v _ => v = .slice VA LX.length vc)
        | 5 => (fun v _ => v = .agg #[.int .i64 a1, .int .i64 a2, .int .i64 a3, .int .i64 a4, .int .i64 a5, .int .i64 a6])
        | 6 => (fun v _ => v = .pointer (some ⟨b, 0, none⟩))
        | 7 => (fun v _ => v = .pointer (some ⟨b, 0, none⟩))
        | 8 => (fun v _ => v = .pointer (some ⟨b, 0, none⟩))
        | 9 => (fun v _ => v = .int .i64 now)
        | 10 => (fun v _ => v = .int .i64 after)
        | 11 => (fun v _ => v = .int .i64 dd)
        | 12 => (fun v _ => v = .agg #[.int .i64 a1, .int .i64 a2, .int .i64 a3, .int .i64 a4, .int .i64 a5, .int .i64 a6, .int .i64 dd])
        | 13 => (fun v W => ∃ j, v = .slice (some ⟨j, 0, none⟩) 1 1 ∧ j < W.heap.size ∧ W.heap[j]? = some (.cells #[.int .i64 a1, .int .i64 a2, .int .i64 a3, .int .i64 a4, .int .i64 a5, .int .i64 a6, .int .i64 dd] TM (0, 0)))
        | 14 => (fun v W => W.ownsRow (b + 1) TM 7 v (LX.length + 1) (LX.flatMap encT ++ [.int .i64 a1, .int .i64 a2, .int .i64 a3, .int .i64 a4, .int .i64 a5, .int .i64 a6, .int .i64 dd]) ∧ (v.ownBlock = VV.ownBlock ∨ ∀ k, v.ownBlock = some k → SZ ≤ k))
        | 15 => (fun v _ => v = .pointer (some ⟨b, 0, none⟩))
        | 16 => (fun v _ => v = .pointer (some ⟨b, 1, none⟩))
        | 17 => (fun v W => True)
        | _ => (fun _ _ => True)) #[0, 0, 2, 6, 14, 0, 0, 64, 192, 448, 0, 1984, 4064, 8160, 16382, 32767, 65535, 131071] #[0, 0, 2, 4, 8, 0, 0, 64, 128, 256, 0, 1536, 2080, 4096, 8208, 1, 32768, 81920] 237567 (by kernel_rfl) 18 rfl (fun m hm => by subst hm; kernel_rfl) (by kernel_rfl) (fun w => Keep.refl _ w) (fun u v w h1 h2 => h1.trans h2) ?_ ?_ (hS0) ?_ ?_
    · intro k u v hk hr
      by_cases hs14 : k = 14
      · have h := hr.1 hs14; exact h.mono (by intro x hx; exact List.mem_cons_of_mem _ hx)
      by_cases hs17 : k = 17
      · have h := hr.2.1 hs17; exact h.mono (by simp)
      have h := hr.2.2 hs14 hs17; exact Keep.of_below h
    · intro i hi
      rcases (by omega : i = 0 ∨ i = 1 ∨ i = 2 ∨ i = 3 ∨ i = 4 ∨ i = 5 ∨ i = 6 ∨ i = 7 ∨ i = 8 ∨ i = 9 ∨ i = 10 ∨ i = 11 ∨ i = 12 ∨ i = 13 ∨ i = 14 ∨ i = 15 ∨ i = 16 ∨ i = 17) with rfl | rfl | rfl | rfl | rfl | rfl | rfl | rfl | rfl | rfl | rfl | rfl | rfl | rfl | rfl | rfl | rfl | rfl
      · intro k hk y hy hyt v w w' h hr
        exact h
      · intro k hk y hy hyt v w w' h hr
        exact h
      · intro k hk y hy hyt v w w' h hr
        exact h
      · intro k hk y hy hyt v w w' h hr
        exact h
      · intro k hk y hy hyt v w w' h hr
        exact h
      · intro k hk y hy hyt v w w' h hr
        exact h
      · intro k hk y hy hyt v w w' h hr
        exact h
      · intro k hk y hy hyt v w w' h hr
        exact h
      · intro k hk y hy hyt v w w' h hr
        exact h
      · intro k hk y hy hyt v w w' h hr
        exact h
      · intro k hk y hy hyt v w w' h hr
        exact h
      · intro k hk y hy hyt v w w' h hr
        exact h
      · intro k hk y hy hyt v w w' h hr
        exact h
      · intro k hk y hy hyt v w w' h hr
        by_cases hs14 : k = 14
        · have hr0 := hr.1 hs14
          subst hs14
          exact absurd (hy.trans hyt) (ne_true_of_eq_false (by kernel_rfl))
        by_cases hs17 : k = 17
        · have hr0 := hr.2.1 hs17
          subst hs17
          exact absurd (hy.trans hyt) (ne_true_of_eq_false (by kernel_rfl))
        have hr := hr.2.2 hs14 hs17
        obtain ⟨j, h1, h2, h3⟩ := h; exact ⟨j, h1, Nat.lt_of_lt_of_le h2 hr.size, (hr.block j h2).trans h3⟩
      · intro k hk y hy hyt v w w' h hr
        by_cases hs14 : k = 14
        · have hr0 := hr.1 hs14
          subst hs14
          exact absurd (hy.trans hyt) (ne_true_of_eq_false (by kernel_rfl))
        by_cases hs17 : k = 17
        · have hr0 := hr.2.1 hs17
          subst hs17
          exact absurd (hy.trans hyt) (ne_true_of_eq_false (by kernel_rfl))
        have hr := hr.2.2 hs14 hs17
        exact ⟨own_kept h.1 hr, h.2⟩
      · intro k hk y hy hyt v w w' h hr
        exact h
      · intro k hk y hy hyt v w w' h hr
        exact h
      · intro k hk y hy hyt v w w' h hr
        by_cases hs14 : k = 14
        · have hr0 := hr.1 hs14
          subst hs14
          exact absurd (hy.trans hyt) (ne_true_of_eq_false (by kernel_rfl))
        by_cases hs17 : k = 17
        · have hr0 := hr.2.1 hs17
          subst hs17
          exact absurd (hy.trans hyt) (ne_true_of_eq_false (by kernel_rfl))
        have hr := hr.2.2 hs14 hs17
        exact trivial
    · intro i hi
      rcases (by omega : i = 0 ∨ i = 1 ∨ i = 2 ∨ i = 3 ∨ i = 4 ∨ i = 5 ∨ i = 6 ∨ i = 7 ∨ i = 8 ∨ i = 9 ∨ i = 10 ∨ i = 11 ∨ i = 12 ∨ i = 13 ∨ i = 14 ∨ i = 15 ∨ i = 16 ∨ i = 17) with rfl | rfl | rfl | rfl | rfl | rfl | rfl | rfl | rfl | rfl | rfl | rfl | rfl | rfl | rfl | rfl | rfl | rfl
      · -- 0: Op.move (Operand.tmp 0)
        intro l hl vs W dn e1 e2 e3 hS hR hp
        have f14 : dn 14 = dn 14 := rfl
        have f17 : dn 17 = false := e3 17 (by kernel_rfl)
        replace hS : (PushW SZ b now XB VV LX (a1, a2, a3, a4, a5, a6) dd (dn 14) (dn 17)) W := hS
        rw [f17] at hS
        have g14 : (dn 14 || ((0 : Nat) == 14)) = dn 14 := Bool.or_false _
        have g17 : (dn 17 || ((0 : Nat) == 17)) = false := by rw [f17]; rfl
        refine OpGoal.imp (S1 := PushW SZ b now XB VV LX (a1, a2, a3, a4, a5, a6) dd (dn 14) false) (fun W' h => ?_) ?_
        · show (PushW SZ b now XB VV LX (a1, a2, a3, a4, a5, a6) dd (dn 14 || ((0 : Nat) == 14)) (dn 17 || ((0 : Nat) == 17))) W'
          rw [g14, g17]
          exact h
        clear g14 g17 e1 e2 e3
        obtain rfl : l = [] := hl.symm.trans (by kernel_rfl)
        clear hp hl
        refine opgoal (_) (some 33) rfl rfl fun K hK => ?_
        refine Runs.mk ?_
        simp only [putAll]
        go_simp
        refine hK _ _ ?_ hS ⟨fun h => absurd h (by decide), fun h => absurd h (by decide), fun h14 h17 => ((fun w => Below.refl _ w) W)⟩ _ rfl rfl
        first | rfl | go_simp | simp
      · -- 1: Op.move (Operand.tmp 0)
        intro l hl vs W dn e1 e2 e3 hS hR hp
        have f14 : dn 14 = false := e3 14 (by kernel_rfl)
        have f17 : dn 17 = false := e3 17 (by kernel_rfl)
        replace hS : (PushW SZ b now XB VV LX (a1, a2, a3, a4, a5, a6) dd (dn 14) (dn 17)) W := hS
        rw [f14, f17] at hS
        have g14 : (dn 14 || ((1 : Nat) == 14)) = false := by rw [f14]; rfl
        have g17 : (dn 17 || ((1 : Nat) == 17)) = false := by rw [f17]; rfl
        refine OpGoal.imp (S1 := PushW SZ b now XB VV LX (a1, a2, a3, a4, a5, a6) dd false false) (fun W' h => ?_) ?_
        · show (PushW SZ b now XB VV LX (a1, a2, a3, a4, a5, a6) dd (dn 14 || ((1 : Nat) == 14)) (dn 17 || ((1 : Nat) == 17))) W'
          rw [g14, g17]
          exact h
        clear g14 g17 e1 e2 e3
        obtain rfl : l = [] := hl.symm.trans (by kernel_rfl)
        clear hp hl
        refine opgoal (_) (some 34) rfl rfl fun K hK => ?_
        refine Runs.mk ?_
        simp only [putAll]
        go_simp
        refine hK _ _ ?_ hS ⟨fun h => absurd h (by decide), fun h => absurd h (by decide), fun h14 h17 => ((fun w => Below.refl _ w) W)⟩ _ rfl rfl
        first | rfl | go_simp | simp
      · -- 2: Op.nilCheck (Operand.tmp 34)
        intro l hl vs W dn e1 e2 e3 hS hR hp
        have f14 : dn 14 = false := e3 14 (by kernel_rfl)
        have f17 : dn 17 = false := e3 17 (by kernel_rfl)
        replace hS : (PushW SZ b now XB VV LX (a1, a2, a3, a4, a5, a6) dd (dn 14) (dn 17)) W := hS
        rw [f14, f17] at hS
        have g14 : (dn 14 || ((2 : Nat) == 14)) = false := by rw [f14]; rfl
        have g17 : (dn 17 || ((2 : Nat) == 17)) = false := by rw [f17]; rfl
        refine OpGoal.imp (S1 := PushW SZ b now XB VV LX (a1, a2, a3, a4, a5, a6) dd false false) (fun W' h => ?_) ?_
        · show (PushW SZ b now XB VV LX (a1, a2, a3, a4, a5, a6) dd (dn 14 || ((2 : Nat) == 14)) (dn 17 || ((2 : Nat) == 17))) W'
          rw [g14, g17]
          exact h
        clear g14 g17 e1 e2 e3
        obtain rfl : l = [(1, 34)] := hl.symm.trans (by kernel_rfl)
        have p1 : vs 1 = _ := hp 1 (by decide) (by decide)
        clear hp hl
        refine opgoal (_) (some 35) rfl rfl fun K hK => ?_
        refine Runs.mk ?_
        simp only [putAll]
        go_simp
        refine hK _ _ ?_ hS ⟨fun h => absurd h (by decide), fun h => absurd h (by decide), fun h14 h17 => ((fun w => Below.refl _ w) W)⟩ _ rfl rfl
        first | rfl | go_simp | simp
      · -- 3: Op.fieldAddr 63 (Operand.tmp 35) 1
        intro l hl vs W dn e1 e2 e3 hS hR hp
        have f14 : dn 14 = false := e3 14 (by kernel_rfl)
        have f17 : dn 17 = false := e3 17 (by kernel_rfl)
        replace hS : (PushW SZ b now XB VV LX (a1, a2, a3, a4, a5, a6) dd (dn 14) (dn 17)) W := hS
        rw [f14, f17] at hS
        have g14 : (dn 14 || ((3 : Nat) == 14)) = false := by rw [f14]; rfl
        have g17 : (dn 17 || ((3 : Nat) == 17)) = false := by rw [f17]; rfl
        refine OpGoal.imp (S1 := PushW SZ b now XB VV LX (a1, a2, a3, a4, a5, a6) dd false false) (fun W' h => ?_) ?_
        · show (PushW SZ b now XB VV LX (a1, a2, a3, a4, a5, a6) dd (dn 14 || ((3 : Nat) == 14)) (dn 17 || ((3 : Nat) == 17))) W'
          rw [g14, g17]
          exact h
        clear g14 g17 e1 e2 e3
        obtain rfl : l = [(1, 34), (2, 35)] := hl.symm.trans (by kernel_rfl)
        have p2 : vs 2 = _ := hp 2 (by decide) (by decide)
        clear hp hl
        refine opgoal (_) (some 36) rfl rfl fun K hK => ?_
        refine Runs.mk ?_
        simp only [putAll]
        go_simp
        refine hK _ _ ?_ hS ⟨fun h => absurd h (by decide), fun h => absurd h (by decide), fun h14 h17 => ((fun w => Below.refl _ w) W)⟩ _ rfl rfl
        first | rfl | go_simp | simp
      · -- 4: Op.load 61 (Operand.tmp 36)
        intro l hl vs W dn e1 e2 e3 hS hR hp
        have f14 : dn 14 = false := e3 14 (by kernel_rfl)
        have f17 : dn 17 = false := e3 17 (by kernel_rfl)
        replace hS : (PushW SZ b now XB VV LX (a1, a2, a3, a4, a5, a6) dd (dn 14) (dn 17)) W := hS
        rw [f14, f17] at hS
        have g14 : (dn 14 || ((4 : Nat) == 14)) = false := by rw [f14]; rfl
        have g17 : (dn 17 || ((4 : Nat) == 17)) = false := by rw [f17]; rfl
        refine OpGoal.imp (S1 := PushW SZ b now XB VV LX (a1, a2, a3, a4, a5, a6) dd false false) (fun W' h => ?_) ?_
        · show (PushW SZ b now XB VV LX (a1, a2, a3, a4, a5, a6) dd (dn 14 || ((4 : Nat) == 14)) (dn 17 || ((4 : Nat) == 17))) W'
          rw [g14, g17]
          exact h
        clear g14 g17 e1 e2 e3
        obtain rfl : l = [(1, 34), (2, 35), (3, 36)] := hl.symm.trans (by kernel_rfl)
        have p3 : vs 3 = _ := hp 3 (by decide) (by decide)
        clear hp hl
        refine opgoal (_) (some 37) rfl rfl fun K hK => ?_
        have hc1 : W.cell? ⟨b, 1, none⟩ = some VV := (hS.cell rfl).2
        rw [hVV.out] at hc1
        refine Runs.mk ?_
        simp only [putAll]
        go_simp
        refine hK _ _ ?_ hS ⟨fun h => absurd h (by decide), fun h => absurd h (by decide), fun h14 h17 => ((fun w => Below.refl _ w) W)⟩ _ rfl rfl
        first | rfl | go_simp | simp
      · -- 5: Op.load 30 (Operand.tmp 4)
        intro l hl vs W dn e1 e2 e3 hS hR hp
        have f14 : dn 14 = false := e3 14 (by kernel_rfl)
        have f17 : dn 17 = false := e3 17 (by kernel_rfl)
        replace hS : (PushW SZ b now XB VV LX (a1, a2, a3, a4, a5, a6) dd (dn 14) (dn 17)) W := hS
        rw [f14, f17] at hS
        have g14 : (dn 14 || ((5 : Nat) == 14)) = false := by rw [f14]; rfl
        have g17 : (dn 17 || ((5 : Nat) == 17)) = false := by rw [f17]; rfl
        refine OpGoal.imp (S1 := PushW SZ b now XB VV LX (a1, a2, a3, a4, a5, a6) dd false false) (fun W' h => ?_) ?_
        · show (PushW SZ b now XB VV LX (a1, a2, a3, a4, a5, a6) dd (dn 14 || ((5 : Nat) == 14)) (dn 17 || ((5 : Nat) == 17))) W'
          rw [g14, g17]
          exact h
        clear g14 g17 e1 e2 e3
        obtain rfl : l = [] := hl.symm.trans (by kernel_rfl)
        clear hp hl
        refine opgoal (_) (some 38) rfl rfl fun K hK => ?_
        obtain ⟨c0, c1, c2, c3, c4, c5⟩ := hS.ent.cells
        dsimp only at c0 c1 c2 c3 c4 c5
        refine Runs.mk ?_
        simp only [putAll]
        go_simp
        refine hK _ _ ?_ hS ⟨fun h => absurd h (by decide), fun h => absurd h (by decide), fun h14 h17 => ((fun w => Below.refl _ w) W)⟩ _ rfl rfl
        first | rfl | go_simp | simp
      · -- 6: Op.move (Operand.tmp 0)
        intro l hl vs W dn e1 e2 e3 hS hR hp
        have f14 : dn 14 = false := e3 14 (by kernel_rfl)
        have f17 : dn 17 = false := e3 17 (by kernel_rfl)
        replace hS : (PushW SZ b now XB VV LX (a1, a2, a3, a4, a5, a6) dd (dn 14) (dn 17)) W := hS
        rw [f14, f17] at hS
        have g14 : (dn 14 || ((6 : Nat) == 14)) = false := by rw [f14]; rfl
        have g17 : (dn 17 || ((6 : Nat) == 17)) = false := by rw [f17]; rfl
        refine OpGoal.imp (S1 := PushW SZ b now XB VV LX (a1, a2, a3, a4, a5, a6) dd false false) (fun W' h => ?_) ?_
        · show (PushW SZ b now XB VV LX (a1, a2, a3, a4, a5, a6) dd (dn 14 || ((6 : Nat) == 14)) (dn 17 || ((6 : Nat) == 17))) W'
          rw [g14, g17]
          exact h
        clear g14 g17 e1 e2 e3
        obtain rfl : l = [] := hl.symm.trans (by kernel_rfl)
        clear hp hl
        refine opgoal (_) (some 39) rfl rfl fun K hK => ?_
        refine Runs.mk ?_
        simp only [putAll]
        go_simp
        refine hK _ _ ?_ hS ⟨fun h => absurd h (by decide), fun h => absurd h (by decide), fun h14 h17 => ((fun w => Below.refl _ w) W)⟩ _ rfl rfl
        first | rfl | go_simp | simp
      · -- 7: Op.nilCheck (Operand.tmp 39)
        intro l hl vs W dn e1 e2 e3 hS hR hp
        have f14 : dn 14 = false := e3 14 (by kernel_rfl)
        have f17 : dn 17 = false := e3 17 (by kernel_rfl)
        replace hS : (PushW SZ b now XB VV LX (a1, a2, a3, a4, a5, a6) dd (dn 14) (dn 17)) W := hS
        rw [f14, f17] at hS
        have g14 : (dn 14 || ((7 : Nat) == 14)) = false := by rw [f14]; rfl
        have g17 : (dn 17 || ((7 : Nat) == 17)) = false := by rw [f17]; rfl
        refine OpGoal.imp (S1 := PushW SZ b now XB VV LX (a1, a2, a3, a4, a5, a6) dd false false) (fun W' h => ?_) ?_
        · show (PushW SZ b now XB VV LX (a1, a2, a3, a4, a5, a6) dd (dn 14 || ((7 : Nat) == 14)) (dn 17 || ((7 : Nat) == 17))) W'
          rw [g14, g17]
          exact h
        clear g14 g17 e1 e2 e3
        obtain rfl : l = [(6, 39)] := hl.symm.trans (by kernel_rfl)
        have p6 : vs 6 = _ := hp 6 (by decide) (by decide)
        clear hp hl
        refine opgoal (_) (some 40) rfl rfl fun K hK => ?_
        refine Runs.mk ?_
        simp only [putAll]
        go_simp
        refine hK _ _ ?_ hS ⟨fun h => absurd h (by decide), fun h => absurd h (by decide), fun h14 h17 => ((fun w => Below.refl _ w) W)⟩ _ rfl rfl
        first | rfl | go_simp | simp
      · -- 8: Op.fieldAddr 63 (Operand.tmp 40) 0
        intro l hl vs W dn e1 e2 e3 hS hR hp
        have f14 : dn 14 = false := e3 14 (by kernel_rfl)
        have f17 : dn 17 = false := e3 17 (by kernel_rfl)
        replace hS : (PushW SZ b now XB VV LX (a1, a2, a3, a4, a5, a6) dd (dn 14) (dn 17)) W := hS
        rw [f14, f17] at hS
        have g14 : (dn 14 || ((8 : Nat) == 14)) = false := by rw [f14]; rfl
        have g17 : (dn 17 || ((8 : Nat) == 17)) = false := by rw [f17]; rfl
        refine OpGoal.imp (S1 := PushW SZ b now XB VV LX (a1, a2, a3, a4, a5, a6) dd false false) (fun W' h => ?_) ?_
        · show (PushW SZ b now XB VV LX (a1, a2, a3, a4, a5, a6) dd (dn 14 || ((8 : Nat) == 14)) (dn 17 || ((8 : Nat) == 17))) W'
          rw [g14, g17]
          exact h
        clear g14 g17 e1 e2 e3
        obtain rfl : l = [(6, 39), (7, 40)] := hl.symm.trans (by kernel_rfl)
        have p7 : vs 7 = _ := hp 7 (by decide) (by decide)
        clear hp hl
        refine opgoal (_) (some 41) rfl rfl fun K hK => ?_
        refine Runs.mk ?_
        simp only [putAll]
        go_simp
        refine hK _ _ ?_ hS ⟨fun h => absurd h (by decide), fun h => absurd h (by decide), fun h14 h17 => ((fun w => Below.refl _ w) W)⟩ _ rfl rfl
        first | rfl | go_simp | simp
      · -- 9: Op.load 3 (Operand.tmp 41)
        intro l hl vs W dn e1 e2 e3 hS hR hp
        have f14 : dn 14 = false := e3 14 (by kernel_rfl)
        have f17 : dn 17 = false := e3 17 (by kernel_rfl)
        replace hS : (PushW SZ b now XB VV LX (a1, a2, a3, a4, a5, a6) dd (dn 14) (dn 17)) W := hS
        rw [f14, f17] at hS
        have g14 : (dn 14 || ((9 : Nat) == 14)) = false := by rw [f14]; rfl
        have g17 : (dn 17 || ((9 : Nat) == 17)) = false := by rw [f17]; rfl
        refine OpGoal.imp (S1 := PushW SZ b now XB VV LX (a1, a2, a3, a4, a5, a6) dd false false) (fun W' h => ?_) ?_
        · show (PushW SZ b now XB VV LX (a1, a2, a3, a4, a5, a6) dd (dn 14 || ((9 : Nat) == 14)) (dn 17 || ((9 : Nat) == 17))) W'
          rw [g14, g17]
          exact h
        clear g14 g17 e1 e2 e3
        obtain rfl : l = [(6, 39), (7, 40), (8, 41)] := hl.symm.trans (by kernel_rfl)
        have p8 : vs 8 = _ := hp 8 (by decide) (by decide)
        clear hp hl
        refine opgoal (_) (some 42) rfl rfl fun K hK => ?_
        have hc0 : W.cell? ⟨b, 0, none⟩ = some (.int .i64 now) := (hS.cell rfl).1
        refine Runs.mk ?_
        simp only [putAll]
        go_simp
        refine hK _ _ ?_ hS ⟨fun h => absurd h (by decide), fun h => absurd h (by decide), fun h14 h17 => ((fun w => Below.refl _ w) W)⟩ _ rfl rfl
        first | rfl | go_simp | simp
      · -- 10: Op.move (Operand.tmp 2)
        intro l hl vs W dn e1 e2 e3 hS hR hp
        have f14 : dn 14 = false := e3 14 (by kernel_rfl)
        have f17 : dn 17 = false := e3 17 (by kernel_rfl)
        replace hS : (PushW SZ b now XB VV LX (a1, a2, a3, a4, a5, a6) dd (dn 14) (dn 17)) W := hS
        rw [f14, f17] at hS
        have g14 : (dn 14 || ((10 : Nat) == 14)) = false := by rw [f14]; rfl
        have g17 : (dn 17 || ((10 : Nat) == 17)) = false := by rw [f17]; rfl
        refine OpGoal.imp (S1 := PushW SZ b now XB VV LX (a1, a2, a3, a4, a5, a6) dd false false) (fun W' h => ?_) ?_
        · show (PushW SZ b now XB VV LX (a1, a2, a3, a4, a5, a6) dd (dn 14 || ((10 : Nat) == 14)) (dn 17 || ((10 : Nat) == 17))) W'
          rw [g14, g17]
          exact h
        clear g14 g17 e1 e2 e3
        obtain rfl : l = [] := hl.symm.trans (by kernel_rfl)
        clear hp hl
        refine opgoal (_) (some 43) rfl rfl fun K hK => ?_
        refine Runs.mk ?_
        simp only [putAll]
        go_simp
        refine hK _ _ ?_ hS ⟨fun h => absurd h (by decide), fun h => absurd h (by decide), fun h14 h17 => ((fun w => Below.refl _ w) W)⟩ _ rfl rfl
        first | rfl | go_simp | simp
      · -- 11: Op.binOp BinOp.add 3 (Operand.tmp 42) (Operand.tmp 43) 3
        intro l hl vs W dn e1 e2 e3 hS hR hp
        have f14 : dn 14 = false := e3 14 (by kernel_rfl)
        have f17 : dn 17 = false := e3 17 (by kernel_rfl)
        replace hS : (PushW SZ b now XB VV LX (a1, a2, a3, a4, a5, a6) dd (dn 14) (dn 17)) W := hS
        rw [f14, f17] at hS
        have g14 : (dn 14 || ((11 : Nat) == 14)) = false := by rw [f14]; rfl
        have g17 : (dn 17 || ((11 : Nat) == 17)) = false := by rw [f17]; rfl
        refine OpGoal.imp (S1 := PushW SZ b now XB VV LX (a1, a2, a3, a4, a5, a6) dd false false) (fun W' h => ?_) ?_
        · show (PushW SZ b now XB VV LX (a1, a2, a3, a4, a5, a6) dd (dn 14 || ((11 : Nat) == 14)) (dn 17 || ((11 : Nat) == 17))) W'
          rw [g14, g17]
          exact h
        clear g14 g17 e1 e2 e3
        obtain rfl : l = [(6, 39), (7, 40), (8, 41), (9, 42), (10, 43)] := hl.symm.trans (by kernel_rfl)
        have p9 : vs 9 = _ := hp 9 (by decide) (by decide)
        have p10 : vs 10 = _ := hp 10 (by decide) (by decide)
        clear hp hl
        refine opgoal (_) (some 44) rfl rfl fun K hK => ?_
        have hdd := HDD.out
        refine Runs.mk ?_
        simp only [putAll]
        go_simp
        refine hK _ _ ?_ hS ⟨fun h => absurd h (by decide), fun h => absurd h (by decide), fun h14 h17 => ((fun w => Below.refl _ w) W)⟩ _ rfl rfl
        first | rfl | go_simp | simp
      · -- 12: Op.build 66 #[(0, Operand.tmp 38), (1, Operand.tmp 44)]
        intro l hl vs W dn e1 e2 e3 hS hR hp
        have f14 : dn 14 = false := e3 14 (by kernel_rfl)
        have f17 : dn 17 = false := e3 17 (by kernel_rfl)
        replace hS : (PushW SZ b now XB VV LX (a1, a2, a3, a4, a5, a6) dd (dn 14) (dn 17)) W := hS
        rw [f14, f17] at hS
        have g14 : (dn 14 || ((12 : Nat) == 14)) = false := by rw [f14]; rfl
        have g17 : (dn 17 || ((12 : Nat) == 17)) = false := by rw [f17]; rfl
        refine OpGoal.imp (S1 := PushW SZ b now XB VV LX (a1, a2, a3, a4, a5, a6) dd false false) (fun W' h => ?_) ?_
        · show (PushW SZ b now XB VV LX (a1, a2, a3, a4, a5, a6) dd (dn 14 || ((12 : Nat) == 14)) (dn 17 || ((12 : Nat) == 17))) W'
          rw [g14, g17]
          exact h
        clear g14 g17 e1 e2 e3
        obtain rfl : l = [(5, 38), (6, 39), (7, 40), (8, 41), (9, 42), (10, 43), (11, 44)] := hl.symm.trans (by kernel_rfl)
        have p5 : vs 5 = _ := hp 5 (by decide) (by decide)
        have p11 : vs 11 = _ := hp 11 (by decide) (by decide)
        clear hp hl
        refine opgoal (_) (some 45) rfl rfl fun K hK => ?_
        refine Runs.mk ?_
        simp only [putAll]
        go_simp
        refine hK _ _ ?_ hS ⟨fun h => absurd h (by decide), fun h => absurd h (by decide), fun h14 h17 => ((fun w => Below.refl _ w) W)⟩ _ rfl rfl
        first | rfl | go_simp | simp
      · -- 13: Op.buildSlice 61 1 #[(0, Operand.tmp 45)]
        intro l hl vs W dn e1 e2 e3 hS hR hp
        have f14 : dn 14 = false := e3 14 (by kernel_rfl)
        have f17 : dn 17 = false := e3 17 (by kernel_rfl)
        replace hS : (PushW SZ b now XB VV LX (a1, a2, a3, a4, a5, a6) dd (dn 14) (dn 17)) W := hS
        rw [f14, f17] at hS
        have g14 : (dn 14 || ((13 : Nat) == 14)) = false := by rw [f14]; rfl
        have g17 : (dn 17 || ((13 : Nat) == 17)) = false := by rw [f17]; rfl
        refine OpGoal.imp (S1 := PushW SZ b now XB VV LX (a1, a2, a3, a4, a5, a6) dd false false) (fun W' h => ?_) ?_
        · show (PushW SZ b now XB VV LX (a1, a2, a3, a4, a5, a6) dd (dn 14 || ((13 : Nat) == 14)) (dn 17 || ((13 : Nat) == 17))) W'
          rw [g14, g17]
          exact h
        clear g14 g17 e1 e2 e3
        obtain rfl : l = [(5, 38), (6, 39), (7, 40), (8, 41), (9, 42), (10, 43), (11, 44), (12, 45)] := hl.symm.trans (by kernel_rfl)
        have p12 : vs 12 = _ := hp 12 (by decide) (by decide)
        clear hp hl
        refine opgoal (_) (some 46) rfl rfl fun K hK => ?_
        refine Runs.mk ?_
        simp only [putAll]
        go_simp
        have hb := below_alloc W (.cells #[.int .i64 a1, .int .i64 a2, .int .i64 a3, .int .i64 a4, .int .i64 a5, .int .i64 a6, .int .i64 dd] TM)
        exact hK _ _ ⟨W.heap.size, rfl, by simp, heap_alloc_new _ _⟩ (hS.below hb) ⟨(fun h => absurd h (by decide)), (fun h => absurd h (by decide)), fun h7 h10 => hb⟩ _ rfl rfl
      · -- 14: Op.call { callee := Callee.builtin Builtin.append, args := #[Operand.tmp 37, Operand.tmp 46], argTypes := #[61, 61] }
        intro l hl vs W dn e1 e2 e3 hS hR hp
        have f14 : dn 14 = false := e1
        have f17 : dn 17 = false := e3 17 (by kernel_rfl)
        replace hS : (PushW SZ b now XB VV LX (a1, a2, a3, a4, a5, a6) dd (dn 14) (dn 17)) W := hS
        rw [f14, f17] at hS
        have g14 : (dn 14 || ((14 : Nat) == 14)) = true := by rw [f14]; rfl
        have g17 : (dn 17 || ((14 : Nat) == 17)) = false := by rw [f17]; rfl
        refine OpGoal.imp (S1 := PushW SZ b now XB VV LX (a1, a2, a3, a4, a5, a6) dd true false) (fun W' h => ?_) ?_
        · show (PushW SZ b now XB VV LX (a1, a2, a3, a4, a5, a6) dd (dn 14 || ((14 : Nat) == 14)) (dn 17 || ((14 : Nat) == 17))) W'
          rw [g14, g17]
          exact h
        clear g14 g17 e1 e2 e3
        obtain rfl : l = [(1, 34), (2, 35), (3, 36), (4, 37), (5, 38), (6, 39), (7, 40), (8, 41), (9, 42), (10, 43), (11, 44), (12, 45), (13, 46)] := hl.symm.trans (by kernel_rfl)
        have p4 : vs 4 = _ := hp 4 (by decide) (by decide)
        have p13 : (fun v W => ∃ j, v = .slice (some ⟨j, 0, none⟩) 1 1 ∧ j < W.heap.size ∧ W.heap[j]? = some (.cells #[.int .i64 a1, .int .i64 a2, .int .i64 a3, .int .i64 a4, .int .i64 a5, .int .i64 a6, .int .i64 dd] TM (0, 0))) (vs 13) W := hp 13 (by decide) (by decide)
        dsimp only at p13
        clear hp hl
        obtain ⟨j, q13, l13, b13⟩ := p13
        refine opgoal ({ dst := some 47, op := Op.call { callee := Callee.builtin Builtin.append, args := #[Operand.tmp 37, Operand.tmp 46], argTypes := #[61, 61] }, type := 61, pos := "wheel.go:56", after := #[{ on := 4, ground := Ground.data }, { on := 13, ground := Ground.data }], guard := none }) (some 47) rfl rfl fun K hK => ?_
        refine runs_append_src W (wanted_none rfl) (.tmp 37) (.tmp 46) (b + 1) 61 TM (.agg #[.int .i64 0, .int .i64 0, .int .i64 0, .int .i64 0, .int .i64 0, .int .i64 0, .int .i64 0]) 7 56 rfl (by kernel_rfl) (by kernel_rfl) rfl (by decide) (by decide) VV LX.length (LX.flatMap encT) ((eval_putAll (j := 4) (by simp) (by decide) (by intro k hk; simpa using hk) p4).trans hVV.out.symm) (hS.own rfl) (some ⟨j, 0, none⟩) 1 1 (eval_putAll (j := 13) (by simp) (by decide) (by intro k hk; simpa using hk) q13) (fun h => by cases h) [.int .i64 a1, .int .i64 a2, .int .i64 a3, .int .i64 a4, .int .i64 a5, .int .i64 a6, .int .i64 dd] rfl (lies_block b13) (by simp [Value.oneCell']) (by have := hsm.out; omega) (Nat.succ_le_of_lt (hS.lt rfl)) ?_
        intro v' w' h1 h2 h3
        have hkk : Keep VV.ownBlock.toList W w' := keep_grown h2 _ (fun j hj _ => by simp [hj])
        exact hK _ _ ⟨h1, h3.elim (fun h => .inl h) (fun h => .inr fun k hk => (by rw [h] at hk; cases hk; exact hS.szw))⟩ (hS.app hkk) ⟨(fun _ => hkk), (fun h => absurd h (by decide)), fun h7 h10 => absurd rfl h7⟩ _ put_dfs (put_slot (by simp))
      · -- 15: Op.nilCheck (Operand.tmp 33)
        intro l hl vs W dn e1 e2 e3 hS hR hp
        have f14 : dn 14 = true := e2 14 (by kernel_rfl)
        have f17 : dn 17 = false := e3 17 (by kernel_rfl)
        replace hS : (PushW SZ b now XB VV LX (a1, a2, a3, a4, a5, a6) dd (dn 14) (dn 17)) W := hS
        rw [f14, f17] at hS
        have g14 : (dn 14 || ((15 : Nat) == 14)) = true := by rw [f14]; rfl
        have g17 : (dn 17 || ((15 : Nat) == 17)) = false := by rw [f17]; rfl
        refine OpGoal.imp (S1 := PushW SZ b now XB VV LX (a1, a2, a3, a4, a5, a6) dd true false) (fun W' h => ?_) ?_
        · show (PushW SZ b now XB VV LX (a1, a2, a3, a4, a5, a6) dd (dn 14 || ((15 : Nat) == 14)) (dn 17 || ((15 : Nat) == 17))) W'
          rw [g14, g17]
          exact h
        clear g14 g17 e1 e2 e3
        obtain rfl : l = [(0, 33), (1, 34), (2, 35), (3, 36), (4, 37), (5, 38), (6, 39), (7, 40), (8, 41), (9, 42), (10, 43), (11, 44), (12, 45), (13, 46), (14, 47)] := hl.symm.trans (by kernel_rfl)
        have p0 : vs 0 = _ := hp 0 (by decide) (by decide)
        clear hp hl
        refine opgoal (_) (some 48) rfl rfl fun K hK => ?_
        refine Runs.mk ?_
        simp only [putAll]
        go_simp
        refine hK _ _ ?_ hS ⟨fun h => absurd h (by decide), fun h => absurd h (by decide), fun h14 h17 => ((fun w => Below.refl _ w) W)⟩ _ rfl rfl
        first | rfl | go_simp | simp
      · -- 16: Op.fieldAddr 63 (Operand.tmp 48) 1
        intro l hl vs W dn e1 e2 e3 hS hR hp
        have f14 : dn 14 = true := e2 14 (by kernel_rfl)
        have f17 : dn 17 = false := e3 17 (by kernel_rfl)
        replace hS : (PushW SZ b now XB VV LX (a1, a2, a3, a4, a5, a6) dd (dn 14) (dn 17)) W := hS
        rw [f14, f17] at hS
        have g14 : (dn 14 || ((16 : Nat) == 14)) = true := by rw [f14]; rfl
        have g17 : (dn 17 || ((16 : Nat) == 17)) = false := by rw [f17]; rfl
        refine OpGoal.imp (S1 := PushW SZ b now XB VV LX (a1, a2, a3, a4, a5, a6) dd true false) (fun W' h => ?_) ?_
        · show (PushW SZ b now XB VV LX (a1, a2, a3, a4, a5, a6) dd (dn 14 || ((16 : Nat) == 14)) (dn 17 || ((16 : Nat) == 17))) W'
          rw [g14, g17]
          exact h
        clear g14 g17 e1 e2 e3
        obtain rfl : l = [(0, 33), (1, 34), (2, 35), (3, 36), (4, 37), (5, 38), (6, 39), (7, 40), (8, 41), (9, 42), (10, 43), (11, 44), (12, 45), (13, 46), (14, 47), (15, 48)] := hl.symm.trans (by kernel_rfl)
        have p15 : vs 15 = _ := hp 15 (by decide) (by decide)
        clear hp hl
        refine opgoal (_) (some 49) rfl rfl fun K hK => ?_
        refine Runs.mk ?_
        simp only [putAll]
        go_simp
        refine hK _ _ ?_ hS ⟨fun h => absurd h (by decide), fun h => absurd h (by decide), fun h14 h17 => ((fun w => Below.refl _ w) W)⟩ _ rfl rfl
        first | rfl | go_simp | simp
      · -- 17: Op.store 61 (Operand.tmp 49) (Operand.tmp 47)
        intro l hl vs W dn e1 e2 e3 hS hR hp
        have f14 : dn 14 = true := e2 14 (by kernel_rfl)
        have f17 : dn 17 = false := e1
        replace hS : (PushW SZ b now XB VV LX (a1, a2, a3, a4, a5, a6) dd (dn 14) (dn 17)) W := hS
        rw [f14, f17] at hS
        have g14 : (dn 14 || ((17 : Nat) == 14)) = true := by rw [f14]; rfl
        have g17 : (dn 17 || ((17 : Nat) == 17)) = true := by rw [f17]; rfl
        refine OpGoal.imp (S1 := PushW SZ b now XB VV LX (a1, a2, a3, a4, a5, a6) dd true true) (fun W' h => ?_) ?_
        · show (PushW SZ b now XB VV LX (a1, a2, a3, a4, a5, a6) dd (dn 14 || ((17 : Nat) == 14)) (dn 17 || ((17 : Nat) == 17))) W'
          rw [g14, g17]
          exact h
        clear g14 g17 e1 e2 e3
        obtain rfl : l = [(0, 33), (1, 34), (2, 35), (3, 36), (4, 37), (5, 38), (6, 39), (7, 40), (8, 41), (9, 42), (10, 43), (11, 44), (12, 45), (13, 46), (14, 47), (15, 48), (16, 49)] := hl.symm.trans (by kernel_rfl)
        have p14 : (fun v W => W.ownsRow (b + 1) TM 7 v (LX.length + 1) (LX.flatMap encT ++ [.int .i64 a1, .int .i64 a2, .int .i64 a3, .int .i64 a4, .int .i64 a5, .int .i64 a6, .int .i64 dd]) ∧ (v.ownBlock = VV.ownBlock ∨ ∀ k, v.ownBlock = some k → SZ ≤ k)) (vs 14) W := hp 14 (by decide) (by decide)
        dsimp only at p14
        have p16 : vs 16 = _ := hp 16 (by decide) (by decide)
        clear hp hl
        obtain ⟨o14, r14⟩ := p14
        refine opgoal (_) (none) rfl rfl fun K hK => ?_
        obtain ⟨A', c', q14⟩ := own_formN o14
        rw [q14] at o14 r14
        have hc1 : W.cell? ⟨b, 1, none⟩ = some VV := (hS.cell rfl).2
        have hf1 : W.frozen? ⟨b, 1, none⟩ = false := frozen_of_row W _ _ _ _ (hS.blk rfl)
        refine Runs.mk ?_
        simp only [putAll]
        go_simp
        exact hK undef _ trivial (hS.fin o14 r14) ⟨(fun h => absurd h (by decide)), (fun _ => (Keep.refl _ _).setCell (p := ⟨b, 1, none⟩) (.inl (by simp)) _), fun h7 h10 => absurd rfl h10⟩ _ rfl rfl
    · intro l hl vs W dn hd hS hR hp
      replace hS : (PushW SZ b now XB VV LX (a1, a2, a3, a4, a5, a6) dd (dn 14) (dn 17)) W := hS
      rw [hd 14 (by decide), hd 17 (by decide)] at hS
      obtain rfl : l = [(0, 33), (1, 34), (2, 35), (3, 36), (4, 37), (5, 38), (6, 39), (7, 40), (8, 41), (9, 42), (10, 43), (11, 44), (12, 45), (13, 46), (14, 47), (15, 48), (16, 49)] := hl.symm.trans (by kernel_rfl)
      have p0 : vs 0 = _ := hp 0 (by decide) (by decide)
      have p1 : vs 1 = _ := hp 1 (by decide) (by decide)
      have p2 : vs 2 = _ := hp 2 (by decide) (by decide)
      have p3 : vs 3 = _ := hp 3 (by decide) (by decide)
      have p4 : vs 4 = _ := hp 4 (by decide) (by decide)
      have p5 : vs 5 = _ := hp 5 (by decide) (by decide)
      have p6 : vs 6 = _ := hp 6 (by decide) (by decide)
      have p7 : vs 7 = _ := hp 7 (by decide) (by decide)
      have p8 : vs 8 = _ := hp 8 (by decide) (by decide)
      have p9 : vs 9 = _ := hp 9 (by decide) (by decide)
      have p10 : vs 10 = _ := hp 10 (by decide) (by decide)
      have p11 : vs 11 = _ := hp 11 (by decide) (by decide)
      have p12 : vs 12 = _ := hp 12 (by decide) (by decide)
      have p15 : vs 15 = _ := hp 15 (by decide) (by decide)
      have p16 : vs 16 = _ := hp 16 (by decide) (by decide)
      have p17 : (fun v W => True) (vs 17) W := hp 17 (by decide) (by decide)
      dsimp only at p17
      clear hp hl
      simp only [putAll_mk, setAll, List.setIfInBounds_toArray, List.set_cons_succ, List.set_cons_zero, p0, p1, p2, p3, p4, p5, p6, p7, p8, p9, p10, p11, p12, p15, p16]
      have HS := Lib.hid hS
      have HR := Lib.hid hR
      clear hS hR p17
      obtain ⟨W9, hW9⟩ : ∃ W9, Hid (W = W9) := ⟨_, Lib.hid rfl⟩
      rw [hW9.out] at HS HR ⊢
      go_wp2_with fail
      go_ret
      exact ⟨rfl, HFIN.out W9 HS.out HR.out⟩
  | false =>
    clear hfull
    go_wp2_with (rw [hw2.out, hKB1.out])
    refine HS2.out.mono ?_
    rintro e w3 ⟨rfl, hg3⟩
    obtain ⟨VV, h3, hch⟩ := hg3
    obtain ⟨VA3, vc, hVVe⟩ := own_formN h3.own
    obtain ⟨VA, hVA⟩ : ∃ VA, VA3 = VA := ⟨_, rfl⟩
    rw [hVA] at hVVe
    have hVV := Lib.hid hVVe
    obtain ⟨SZ, hSZ⟩ : ∃ SZ, Hid (w3.heap.size = SZ) := ⟨_, Lib.hid rfl⟩
    have hxs : XB ∉ (b :: v.ownBlock.toList : List Nat) := fun hm => by
      rcases List.mem_cons.1 hm with e | e
      · exact HVX.out.1 e
      · exact HVX.out.2 (by simpa using e)
    have hk3 : KB w3 XB (a1, a2, a3, a4, a5, a6) := HKB2.out.keep hch.keep hxs
    have HS0 : Hid (PushW SZ b now XB VV LX (a1, a2, a3, a4, a5, a6) dd false false w3.drew) := Lib.hid (by
      refine ⟨fun _ => h3.blk, fun _ => h3.own, hk3, (fun h => by cases h), by have := hSZ.out; show SZ ≤ w3.heap.size; omega, HVX.out.1, fun hx => ?_, fun hx => by have := (h3.ne _ hx).1; omega⟩
      rcases hch.row with e | e
      · exact HVX.out.2 (e ▸ hx)
      · have := e _ hx
        have hz := (Array.getElem?_eq_some_iff.1 HKB2.out).1
        omega)
    have HFIN : Hid (∀ W, PushW SZ b now XB VV LX (a1, a2, a3, a4, a5, a6) dd true true W → Keep (b :: VV.ownBlock.toList) w3.drew W → Goes b v now (LX ++ [mkT (a1, a2, a3, a4, a5, a6) dd]) w W) := Lib.hid fun W hs hk => by
      obtain ⟨v9, h9, hv9⟩ := hs.last rfl
      have h1 : Chg b v w VV w3 := (Chg.of_below HB02.out).trans hch
      have h2 : Chg b VV w3 v9 W := ⟨(Keep.of_below (below_drewN 1 w3)).trans hk, hv9.elim .inl fun h => .inr fun k hk => by rw [hSZ.out]; exact h k hk⟩
      exact ⟨v9, h9, h1.trans h2⟩
    clear hVVe hch hk3 hxs
    go_wp2_with fail
    have hS0 := HS0.out
    clear h3 hVA
    refine wp_region_done (fun dnf => PushW SZ b now XB VV LX (a1, a2, a3, a4, a5, a6) dd (dnf 14) (dnf 17)) (fun u v => Keep (b :: VV.ownBlock.toList) u v) (fun k u v => (k = 14 → (fun u v => Keep VV.ownBlock.toList u v) u v) ∧ (k = 17 → (fun u v => Keep [b] u v) u v) ∧ (¬ k = 14 → ¬ k = 17 → (fun u v => Below u.heap.size u v) u v)) (fun a i => match i with
        | 0 => (fun v _ => v = .pointer (some ⟨b, 0, none⟩))
        | 1 => (fun v _ => v = .pointer (some ⟨b, 0, none⟩))
        | 2 => (fun v _ => v = .pointer (some ⟨b, 0, none⟩))
        | 3 => (fun v _ => v = .pointer (some ⟨b, 1, none⟩))
        | 4 => (fun v _ => v = .slice VA LX.length vc)
        | 5 => (fun v _ => v = .agg #[.int .i64 a1, .int .i64 a2, .int .i64 a3, .int .i64 a4, .int .i64 a5, .int .i64 a6])
        | 6 => (fun v _ => v = .pointer (some ⟨b, 0, none⟩))
        | 7 => (fun v _ => v = .pointer (some ⟨b, 0, none⟩))
        | 8 => (fun v _ => v = .pointer (some ⟨b, 0, none⟩))
        | 9 => (fun v _ => v = .int .i64 now)
        | 10 => (fun v _ => v = .int .i64 after)
        | 11 => (fun v _ => v = .int .i64 dd)
        | 12 => (fun v _ => v = .agg #[.int .i64 a1, .int .i64 a2, .int .i64 a3, .int .i64 a4, .int .i64 a5, .int .i64 a6, .int .i64 dd])
        | 13 => (fun v W => ∃ j, v = .slice (some ⟨j, 0, none⟩) 1 1 ∧ j < W.heap.size ∧ W.heap[j]? = some (.cells #[.int .i64 a1, .int .i64 a2, .int .i64 a3, .int .i64 a4, .int .i64 a5, .int .i64 a6, .int .i64 dd] TM (0, 0)))
        | 14 => (fun v W => W.ownsRow (b + 1) TM 7 v (LX.length + 1) (LX.flatMap encT ++ [.int .i64 a1, .int .i64 a2, .int .i64 a3, .int .i64 a4, .int .i64 a5, .int .i64 a6, .int .i64 dd]) ∧ (v.ownBlock = VV.ownBlock ∨ ∀ k, v.ownBlock = some k → SZ ≤ k))
        | 15 => (fun v _ => v = .pointer (some ⟨b, 0, none⟩))
        | 16 => (fun v _ => v = .pointer (some ⟨b, 1, none⟩))
        | 17 => (fun v W => True)
        | _ => (fun _ _ => True)) #[0, 0, 2, 6, 14, 0, 0, 64, 192, 448, 0, 1984, 4064, 8160, 16382, 32767, 65535, 131071] #[0, 0, 2, 4, 8, 0, 0, 64, 128, 256, 0, 1536, 2080, 4096, 8208, 1, 32768, 81920] 237567 (by kernel_rfl) 18 rfl (fun m hm => by subst hm; kernel_rfl) (by kernel_rfl) (fun w => Keep.refl _ w) (fun u v w h1 h2 => h1.trans h2) ?_ ?_ (hS0) ?_ ?_
    · intro k u v hk hr
      by_cases hs14 : k = 14
      · have h := hr.1 hs14; exact h.mono (by intro x hx; exact List.mem_cons_of_mem _ hx)
      by_cases hs17 : k = 17
      · have h := hr.2.1 hs17; exact h.mono (by simp)
      have h := hr.2.2 hs14 hs17; exact Keep.of_below h
    · intro i hi
      rcases (by omega : i = 0 ∨ i = 1 ∨ i = 2 ∨ i = 3 ∨ i = 4 ∨ i = 5 ∨ i = 6 ∨ i = 7 ∨ i = 8 ∨ i = 9 ∨ i = 10 ∨ i = 11 ∨ i = 12 ∨ i = 13 ∨ i = 14 ∨ i = 15 ∨ i = 16 ∨ i = 17) with rfl | rfl | rfl | rfl | rfl | rfl | rfl | rfl | rfl | rfl | rfl | rfl | rfl | rfl | rfl | rfl | rfl | rfl
      · intro k hk y hy hyt v w w' h hr
        exact h
      · intro k hk y hy hyt v w w' h hr
        exact h
      · intro k hk y hy hyt v w w' h hr
        exact h
      · intro k hk y hy hyt v w w' h hr
        exact h
      · intro k hk y hy hyt v w w' h hr
        exact h
      · intro k hk y hy hyt v w w' h hr
        exact h
      · intro k hk y hy hyt v w w' h hr
        exact h
      · intro k hk y hy hyt v w w' h hr
        exact h
      · intro k hk y hy hyt v w w' h hr
        exact h
      · intro k hk y hy hyt v w w' h hr
        exact h
      · intro k hk y hy hyt v w w' h hr
        exact h
      · intro k hk y hy hyt v w w' h hr
        exact h
      · intro k hk y hy hyt v w w' h hr
        exact h
      · intro k hk y hy hyt v w w' h hr
        by_cases hs14 : k = 14
        · have hr0 := hr.1 hs14
          subst hs14
          exact absurd (hy.trans hyt) (ne_true_of_eq_false (by kernel_rfl))
        by_cases hs17 : k = 17
        · have hr0 := hr.2.1 hs17
          subst hs17
          exact absurd (hy.trans hyt) (ne_true_of_eq_false (by kernel_rfl))
        have hr := hr.2.2 hs14 hs17
        obtain ⟨j, h1, h2, h3⟩ := h; exact ⟨j, h1, Nat.lt_of_lt_of_le h2 hr.size, (hr.block j h2).trans h3⟩
      · intro k hk y hy hyt v w w' h hr
        by_cases hs14 : k = 14
        · have hr0 := hr.1 hs14
          subst hs14
          exact absurd (hy.trans hyt) (ne_true_of_eq_false (by kernel_rfl))
        by_cases hs17 : k = 17
        · have hr0 := hr.2.1 hs17
          subst hs17
          exact absurd (hy.trans hyt) (ne_true_of_eq_false (by kernel_rfl))
        have hr := hr.2.2 hs14 hs17
        exact ⟨own_kept h.1 hr, h.2⟩
      · intro k hk y hy hyt v w w' h hr
        exact h
      · intro k hk y hy hyt v w w' h hr
        exact h
      · intro k hk y hy hyt v w w' h hr
        by_cases hs14 : k = 14
        · have hr0 := hr.1 hs14
          subst hs14
          exact absurd (hy.trans hyt) (ne_true_of_eq_false (by kernel_rfl))
        by_cases hs17 : k = 17
        · have hr0 := hr.2.1 hs17
          subst hs17
          exact absurd (hy.trans hyt) (ne_true_of_eq_false (by kernel_rfl))
        have hr := hr.2.2 hs14 hs17
        exact trivial
    · intro i hi
      rcases (by omega : i = 0 ∨ i = 1 ∨ i = 2 ∨ i = 3 ∨ i = 4 ∨ i = 5 ∨ i = 6 ∨ i = 7 ∨ i = 8 ∨ i = 9 ∨ i = 10 ∨ i = 11 ∨ i = 12 ∨ i = 13 ∨ i = 14 ∨ i = 15 ∨ i = 16 ∨ i = 17) with rfl | rfl | rfl | rfl | rfl | rfl | rfl | rfl | rfl | rfl | rfl | rfl | rfl | rfl | rfl | rfl | rfl | rfl
      · -- 0: Op.move (Operand.tmp 0)
        intro l hl vs W dn e1 e2 e3 hS hR hp
        have f14 : dn 14 = dn 14 := rfl
        have f17 : dn 17 = false := e3 17 (by kernel_rfl)
        replace hS : (PushW SZ b now XB VV LX (a1, a2, a3, a4, a5, a6) dd (dn 14) (dn 17)) W := hS
        rw [f17] at hS
        have g14 : (dn 14 || ((0 : Nat) == 14)) = dn 14 := Bool.or_false _
        have g17 : (dn 17 || ((0 : Nat) == 17)) = false := by rw [f17]; rfl
        refine OpGoal.imp (S1 := PushW SZ b now XB VV LX (a1, a2, a3, a4, a5, a6) dd (dn 14) false) (fun W' h => ?_) ?_
        · show (PushW SZ b now XB VV LX (a1, a2, a3, a4, a5, a6) dd (dn 14 || ((0 : Nat) == 14)) (dn 17 || ((0 : Nat) == 17))) W'
          rw [g14, g17]
          exact h
        clear g14 g17 e1 e2 e3
        obtain rfl : l = [] := hl.symm.trans (by kernel_rfl)
        clear hp hl
        refine opgoal (_) (some 33) rfl rfl fun K hK => ?_
        refine Runs.mk ?_
        simp only [putAll]
        go_simp
        refine hK _ _ ?_ hS ⟨fun h => absurd h (by decide), fun h => absurd h (by decide), fun h14 h17 => ((fun w => Below.refl _ w) W)⟩ _ rfl rfl
        first | rfl | go_simp | simp
      · -- 1: Op.move (Operand.tmp 0)
        intro l hl vs W dn e1 e2 e3 hS hR hp
        have f14 : dn 14 = false := e3 14 (by kernel_rfl)
        have f17 : dn 17 = false := e3 17 (by kernel_rfl)
        replace hS : (PushW SZ b now XB VV LX (a1, a2, a3, a4, a5, a6) dd (dn 14) (dn 17)) W := hS
        rw [f14, f17] at hS
        have g14 : (dn 14 || ((1 : Nat) == 14)) = false := by rw [f14]; rfl
        have g17 : (dn 17 || ((1 : Nat) == 17)) = false := by rw [f17]; rfl
        refine OpGoal.imp (S1 := PushW SZ b now XB VV LX (a1, a2, a3, a4, a5, a6) dd false false) (fun W' h => ?_) ?_
        · show (PushW SZ b now XB VV LX (a1, a2, a3, a4, a5, a6) dd (dn 14 || ((1 : Nat) == 14)) (dn 17 || ((1 : Nat) == 17))) W'
          rw [g14, g17]
          exact h
        clear g14 g17 e1 e2 e3
        obtain rfl : l = [] := hl.symm.trans (by kernel_rfl)
        clear hp hl
        refine opgoal (_) (some 34) rfl rfl fun K hK => ?_
        refine Runs.mk ?_
        simp only [putAll]
        go_simp
        refine hK _ _ ?_ hS ⟨fun h => absurd h (by decide), fun h => absurd h (by decide), fun h14 h17 => ((fun w => Below.refl _ w) W)⟩ _ rfl rfl
        first | rfl | go_simp | simp
      · -- 2: Op.nilCheck (Operand.tmp 34)
        intro l hl vs W dn e1 e2 e3 hS hR hp
        have f14 : dn 14 = false := e3 14 (by kernel_rfl)
        have f17 : dn 17 = false := e3 17 (by kernel_rfl)
        replace hS : (PushW SZ b now XB VV LX (a1, a2, a3, a4, a5, a6) dd (dn 14) (dn 17)) W := hS
        rw [f14, f17] at hS
        have g14 : (dn 14 || ((2 : Nat) == 14)) = false := by rw [f14]; rfl
        have g17 : (dn 17 || ((2 : Nat) == 17)) = false := by rw [f17]; rfl
        refine OpGoal.imp (S1 := PushW SZ b now XB VV LX (a1, a2, a3, a4, a5, a6) dd false false) (fun W' h => ?_) ?_
        · show (PushW SZ b now XB VV LX (a1, a2, a3, a4, a5, a6) dd (dn 14 || ((2 : Nat) == 14)) (dn 17 || ((2 : Nat) == 17))) W'
          rw [g14, g17]
          exact h
        clear g14 g17 e1 e2 e3
        obtain rfl : l = [(1, 34)] := hl.symm.trans (by kernel_rfl)
        have p1 : vs 1 = _ := hp 1 (by decide) (by decide)
        clear hp hl
        refine opgoal (_) (some 35) rfl rfl fun K hK => ?_
        refine Runs.mk ?_
        simp only [putAll]
        go_simp
        refine hK _ _ ?_ hS ⟨fun h => absurd h (by decide), fun h => absurd h (by decide), fun h14 h17 => ((fun w => Below.refl _ w) W)⟩ _ rfl rfl
        first | rfl | go_simp | simp
      · -- 3: Op.fieldAddr 63 (Operand.tmp 35) 1
        intro l hl vs W dn e1 e2 e3 hS hR hp
        have f14 : dn 14 = false := e3 14 (by kernel_rfl)
        have f17 : dn 17 = false := e3 17 (by kernel_rfl)
        replace hS : (PushW SZ b now XB VV LX (a1, a2, a3, a4, a5, a6) dd (dn 14) (dn 17)) W := hS
        rw [f14, f17] at hS
        have g14 : (dn 14 || ((3 : Nat) == 14)) = false := by rw [f14]; rfl
        have g17 : (dn 17 || ((3 : Nat) == 17)) = false := by rw [f17]; rfl
        refine OpGoal.imp (S1 := PushW SZ b now XB VV LX (a1, a2, a3, a4, a5, a6) dd false false) (fun W' h => ?_) ?_
        · show (PushW SZ b now XB VV LX (a1, a2, a3, a4, a5, a6) dd (dn 14 || ((3 : Nat) == 14)) (dn 17 || ((3 : Nat) == 17))) W'
          rw [g14, g17]
          exact h
        clear g14 g17 e1 e2 e3
        obtain rfl : l = [(1, 34), (2, 35)] := hl.symm.trans (by kernel_rfl)
        have p2 : vs 2 = _ := hp 2 (by decide) (by decide)
        clear hp hl
        refine opgoal (_) (some 36) rfl rfl fun K hK => ?_
        refine Runs.mk ?_
        simp only [putAll]
        go_simp
        refine hK _ _ ?_ hS ⟨fun h => absurd h (by decide), fun h => absurd h (by decide), fun h14 h17 => ((fun w => Below.refl _ w) W)⟩ _ rfl rfl
        first | rfl | go_simp | simp
      · -- 4: Op.load 61 (Operand.tmp 36)
        intro l hl vs W dn e1 e2 e3 hS hR hp
        have f14 : dn 14 = false := e3 14 (by kernel_rfl)
        have f17 : dn 17 = false := e3 17 (by kernel_rfl)
        replace hS : (PushW SZ b now XB VV LX (a1, a2, a3, a4, a5, a6) dd (dn 14) (dn 17)) W := hS
        rw [f14, f17] at hS
        have g14 : (dn 14 || ((4 : Nat) == 14)) = false := by rw [f14]; rfl
        have g17 : (dn 17 || ((4 : Nat) == 17)) = false := by rw [f17]; rfl
        refine OpGoal.imp (S1 := PushW SZ b now XB VV LX (a1, a2, a3, a4, a5, a6) dd false false) (fun W' h => ?_) ?_
        · show (PushW SZ b now XB VV LX (a1, a2, a3, a4, a5, a6) dd (dn 14 || ((4 : Nat) == 14)) (dn 17 || ((4 : Nat) == 17))) W'
          rw [g14, g17]
          exact h
        clear g14 g17 e1 e2 e3
        obtain rfl : l = [(1, 34), (2, 35), (3, 36)] := hl.symm.trans (by kernel_rfl)
        have p3 : vs 3 = _ := hp 3 (by decide) (by decide)
        clear hp hl
        refine opgoal (_) (some 37) rfl rfl fun K hK => ?_
        have hc1 : W.cell? ⟨b, 1, none⟩ = some VV := (hS.cell rfl).2
        rw [hVV.out] at hc1
        refine Runs.mk ?_
        simp only [putAll]
        go_simp
        refine hK _ _ ?_ hS ⟨fun h => absurd h (by decide), fun h => absurd h (by decide), fun h14 h17 => ((fun w => Below.refl _ w) W)⟩ _ rfl rfl
        first | rfl | go_simp | simp
      · -- 5: Op.load 30 (Operand.tmp 4)
        intro l hl vs W dn e1 e2 e3 hS hR hp
        have f14 : dn 14 = false := e3 14 (by kernel_rfl)
        have f17 : dn 17 = false := e3 17 (by kernel_rfl)
        replace hS : (PushW SZ b now XB VV LX (a1, a2, a3, a4, a5, a6) dd (dn 14) (dn 17)) W := hS
        rw [f14, f17] at hS
        have g14 : (dn 14 || ((5 : Nat) == 14)) = false := by rw [f14]; rfl
        have g17 : (dn 17 || ((5 : Nat) == 17)) = false := by rw [f17]; rfl
        refine OpGoal.imp (S1 := PushW SZ b now XB VV LX (a1, a2, a3, a4, a5, a6) dd false false) (fun W' h => ?_) ?_
        · show (PushW SZ b now XB VV LX (a1, a2, a3, a4, a5, a6) dd (dn 14 || ((5 : Nat) == 14)) (dn 17 || ((5 : Nat) == 17))) W'
          rw [g14, g17]
          exact h
        clear g14 g17 e1 e2 e3
        obtain rfl : l = [] := hl.symm.trans (by kernel_rfl)
        clear hp hl
        refine opgoal (_) (some 38) rfl rfl fun K hK => ?_
        obtain ⟨c0, c1, c2, c3, c4, c5⟩ := hS.ent.cells
        dsimp only at c0 c1 c2 c3 c4 c5
        refine Runs.mk ?_
        simp only [putAll]
        go_simp
        refine hK _ _ ?_ hS ⟨fun h => absurd h (by decide), fun h => absurd h (by decide), fun h14 h17 => ((fun w => Below.refl _ w) W)⟩ _ rfl rfl
        first | rfl | go_simp | simp
      · -- 6: Op.move (Operand.tmp 0)
        intro l hl vs W dn e1 e2 e3 hS hR hp
        have f14 : dn 14 = false := e3 14 (by kernel_rfl)
        have f17 : dn 17 = false := e3 17 (by kernel_rfl)
        replace hS : (PushW SZ b now XB VV LX (a1, a2, a3, a4, a5, a6) dd (dn 14) (dn 17)) W := hS
        rw [f14, f17] at hS
        have g14 : (dn 14 || ((6 : Nat) == 14)) = false := by rw [f14]; rfl
        have g17 : (dn 17 || ((6 : Nat) == 17)) = false := by rw [f17]; rfl
        refine OpGoal.imp (S1 := PushW SZ b now XB VV LX (a1, a2, a3, a4, a5, a6) dd false false) (fun W' h => ?_) ?_
        · show (PushW SZ b now XB VV LX (a1, a2, a3, a4, a5, a6) dd (dn 14 || ((6 : Nat) == 14)) (dn 17 || ((6 : Nat) == 17))) W'
          rw [g14, g17]
          exact h
        clear g14 g17 e1 e2 e3
        obtain rfl : l = [] := hl.symm.trans (by kernel_rfl)
        clear hp hl
        refine opgoal (_) (some 39) rfl rfl fun K hK => ?_
        refine Runs.mk ?_
        simp only [putAll]
        go_simp
        refine hK _ _ ?_ hS ⟨fun h => absurd h (by decide), fun h => absurd h (by decide), fun h14 h17 => ((fun w => Below.refl _ w) W)⟩ _ rfl rfl
        first | rfl | go_simp | simp
      · -- 7: Op.nilCheck (Operand.tmp 39)
        intro l hl vs W dn e1 e2 e3 hS hR hp
        have f14 : dn 14 = false := e3 14 (by kernel_rfl)
        have f17 : dn 17 = false := e3 17 (by kernel_rfl)
        replace hS : (PushW SZ b now XB VV LX (a1, a2, a3, a4, a5, a6) dd (dn 14) (dn 17)) W := hS
        rw [f14, f17] at hS
        have g14 : (dn 14 || ((7 : Nat) == 14)) = false := by rw [f14]; rfl
        have g17 : (dn 17 || ((7 : Nat) == 17)) = false := by rw [f17]; rfl
        refine OpGoal.imp (S1 := PushW SZ b now XB VV LX (a1, a2, a3, a4, a5, a6) dd false false) (fun W' h => ?_) ?_
        · show (PushW SZ b now XB VV LX (a1, a2, a3, a4, a5, a6) dd (dn 14 || ((7 : Nat) == 14)) (dn 17 || ((7 : Nat) == 17))) W'
          rw [g14, g17]
          exact h
        clear g14 g17 e1 e2 e3
        obtain rfl : l = [(6, 39)] := hl.symm.trans (by kernel_rfl)
        have p6 : vs 6 = _ := hp 6 (by decide) (by decide)
        clear hp hl
        refine opgoal (_) (some 40) rfl rfl fun K hK => ?_
        refine Runs.mk ?_
        simp only [putAll]
        go_simp
        refine hK _ _ ?_ hS ⟨fun h => absurd h (by decide), fun h => absurd h (by decide), fun h14 h17 => ((fun w => Below.refl _ w) W)⟩ _ rfl rfl
        first | rfl | go_simp | simp
      · -- 8: Op.fieldAddr 63 (Operand.tmp 40) 0
        intro l hl vs W dn e1 e2 e3 hS hR hp
        have f14 : dn 14 = false := e3 14 (by kernel_rfl)
        have f17 : dn 17 = false := e3 17 (by kernel_rfl)
        replace hS : (PushW SZ b now XB VV LX (a1, a2, a3, a4, a5, a6) dd (dn 14) (dn 17)) W := hS
        rw [f14, f17] at hS
        have g14 : (dn 14 || ((8 : Nat) == 14)) = false := by rw [f14]; rfl
        have g17 : (dn 17 || ((8 : Nat) == 17)) = false := by rw [f17]; rfl
        refine OpGoal.imp (S1 := PushW SZ b now XB VV LX (a1, a2, a3, a4, a5, a6) dd false false) (fun W' h => ?_) ?_
        · show (PushW SZ b now XB VV LX (a1, a2, a3, a4, a5, a6) dd (dn 14 || ((8 : Nat) == 14)) (dn 17 || ((8 : Nat) == 17))) W'
          rw [g14, g17]
          exact h
        clear g14 g17 e1 e2 e3
        obtain rfl : l = [(6, 39), (7, 40)] := hl.symm.trans (by kernel_rfl)
        have p7 : vs 7 = _ := hp 7 (by decide) (by decide)
        clear hp hl
        refine opgoal (_) (some 41) rfl rfl fun K hK => ?_
        refine Runs.mk ?_
        simp only [putAll]
        go_simp
        refine hK _ _ ?_ hS ⟨fun h => absurd h (by decide), fun h => absurd h (by decide), fun h14 h17 => ((fun w => Below.refl _ w) W)⟩ _ rfl rfl
        first | rfl | go_simp | simp
      · -- 9: Op.load 3 (Operand.tmp 41)
        intro l hl vs W dn e1 e2 e3 hS hR hp
        have f14 : dn 14 = false := e3 14 (by kernel_rfl)
        have f17 : dn 17 = false := e3 17 (by kernel_rfl)
        replace hS : (PushW SZ b now XB VV LX (a1, a2, a3, a4, a5, a6) dd (dn 14) (dn 17)) W := hS
        rw [f14, f17] at hS
        have g14 : (dn 14 || ((9 : Nat) == 14)) = false := by rw [f14]; rfl
        have g17 : (dn 17 || ((9 : Nat) == 17)) = false := by rw [f17]; rfl
        refine OpGoal.imp (S1 := PushW SZ b now XB VV LX (a1, a2, a3, a4, a5, a6) dd false false) (fun W' h => ?_) ?_
        · show (PushW SZ b now XB VV LX (a1, a2, a3, a4, a5, a6) dd (dn 14 || ((9 : Nat) == 14)) (dn 17 || ((9 : Nat) == 17))) W'
          rw [g14, g17]
          exact h
        clear g14 g17 e1 e2 e3
        obtain rfl : l = [(6, 39), (7, 40), (8, 41)] := hl.symm.trans (by kernel_rfl)
        have p8 : vs 8 = _ := hp 8 (by decide) (by decide)
        clear hp hl
        refine opgoal (_) (some 42) rfl rfl fun K hK => ?_
        have hc0 : W.cell? ⟨b, 0, none⟩ = some (.int .i64 now) := (hS.cell rfl).1
        refine Runs.mk ?_
        simp only [putAll]
        go_simp
        refine hK _ _ ?_ hS ⟨fun h => absurd h (by decide), fun h => absurd h (by decide), fun h14 h17 => ((fun w => Below.refl _ w) W)⟩ _ rfl rfl
        first | rfl | go_simp | simp
      · -- 10: Op.move (Operand.tmp 2)
        intro l hl vs W dn e1 e2 e3 hS hR hp
        have f14 : dn 14 = false := e3 14 (by kernel_rfl)
        have f17 : dn 17 = false := e3 17 (by kernel_rfl)
        replace hS : (PushW SZ b now XB VV LX (a1, a2, a3, a4, a5, a6) dd (dn 14) (dn 17)) W := hS
        rw [f14, f17] at hS
        have g14 : (dn 14 || ((10 : Nat) == 14)) = false := by rw [f14]; rfl
        have g17 : (dn 17 || ((10 : Nat) == 17)) = false := by rw [f17]; rfl
        refine OpGoal.imp (S1 := PushW SZ b now XB VV LX (a1, a2, a3, a4, a5, a6) dd false false) (fun W' h => ?_) ?_
        · show (PushW SZ b now XB VV LX (a1, a2, a3, a4, a5, a6) dd (dn 14 || ((10 : Nat) == 14)) (dn 17 || ((10 : Nat) == 17))) W'
          rw [g14, g17]
          exact h
        clear g14 g17 e1 e2 e3
        obtain rfl : l = [] := hl.symm.trans (by kernel_rfl)
        clear hp hl
        refine opgoal (_) (some 43) rfl rfl fun K hK => ?_
        refine Runs.mk ?_
        simp only [putAll]
        go_simp
        refine hK _ _ ?_ hS ⟨fun h => absurd h (by decide), fun h => absurd h (by decide), fun h14 h17 => ((fun w => Below.refl _ w) W)⟩ _ rfl rfl
        first | rfl | go_simp | simp
      · -- 11: Op.binOp BinOp.add 3 (Operand.tmp 42) (Operand.tmp 43) 3
        intro l hl vs W dn e1 e2 e3 hS hR hp
        have f14 : dn 14 = false := e3 14 (by kernel_rfl)
        have f17 : dn 17 = false := e3 17 (by kernel_rfl)
        replace hS : (PushW SZ b now XB VV LX (a1, a2, a3, a4, a5, a6) dd (dn 14) (dn 17)) W := hS
        rw [f14, f17] at hS
        have g14 : (dn 14 || ((11 : Nat) == 14)) = false := by rw [f14]; rfl
        have g17 : (dn 17 || ((11 : Nat) == 17)) = false := by rw [f17]; rfl
        refine OpGoal.imp (S1 := PushW SZ b now XB VV LX (a1, a2, a3, a4, a5, a6) dd false false) (fun W' h => ?_) ?_
        · show (PushW SZ b now XB VV LX (a1, a2, a3, a4, a5, a6) dd (dn 14 || ((11 : Nat) == 14)) (dn 17 || ((11 : Nat) == 17))) W'
          rw [g14, g17]
          exact h
        clear g14 g17 e1 e2 e3
        obtain rfl : l = [(6, 39), (7, 40), (8, 41), (9, 42), (10, 43)] := hl.symm.trans (by kernel_rfl)
        have p9 : vs 9 = _ := hp 9 (by decide) (by decide)
        have p10 : vs 10 = _ := hp 10 (by decide) (by decide)
        clear hp hl
        refine opgoal (_) (some 44) rfl rfl fun K hK => ?_
        have hdd := HDD.out
        refine Runs.mk ?_
        simp only [putAll]
        go_simp
        refine hK _ _ ?_ hS ⟨fun h => absurd h (by decide), fun h => absurd h (by decide), fun h14 h17 => ((fun w => Below.refl _ w) W)⟩ _ rfl rfl
        first | rfl | go_simp | simp
      · -- 12: Op.build 66 #[(0, Operand.tmp 38), (1, Operand.tmp 44)]
        intro l hl vs W dn e1 e2 e3 hS hR hp
        have f14 : dn 14 = false := e3 14 (by kernel_rfl)
        have f17 : dn 17 = false := e3 17 (by kernel_rfl)
        replace hS : (PushW SZ b now XB VV LX (a1, a2, a3, a4, a5, a6) dd (dn 14) (dn 17)) W := hS
        rw [f14, f17] at hS
        have g14 : (dn 14 || ((12 : Nat) == 14)) = false := by rw [f14]; rfl
        have g17 : (dn 17 || ((12 : Nat) == 17)) = false := by rw [f17]; rfl
        refine OpGoal.imp (S1 := PushW SZ b now XB VV LX (a1, a2, a3, a4, a5, a6) dd false false) (fun W' h => ?_) ?_
        · show (PushW SZ b now XB VV LX (a1, a2, a3, a4, a5, a6) dd (dn 14 || ((12 : Nat) == 14)) (dn 17 || ((12 : Nat) == 17))) W'
          rw [g14, g17]
          exact h
        clear g14 g17 e1 e2 e3
        obtain rfl : l = [(5, 38), (6, 39), (7, 40), (8, 41), (9, 42), (10, 43), (11, 44)] := hl.symm.trans (by kernel_rfl)
        have p5 : vs 5 = _ := hp 5 (by decide) (by decide)
        have p11 : vs 11 = _ := hp 11 (by decide) (by decide)
        clear hp hl
        refine opgoal (_) (some 45) rfl rfl fun K hK => ?_
        refine Runs.mk ?_
        simp only [putAll]
        go_simp
        refine hK _ _ ?_ hS ⟨fun h => absurd h (by decide), fun h => absurd h (by decide), fun h14 h17 => ((fun w => Below.refl _ w) W)⟩ _ rfl rfl
        first | rfl | go_simp | simp
      · -- 13: Op.buildSlice 61 1 #[(0, Operand.tmp 45)]
        intro l hl vs W dn e1 e2 e3 hS hR hp
        have f14 : dn 14 = false := e3 14 (by kernel_rfl)
        have f17 : dn 17 = false := e3 17 (by kernel_rfl)
        replace hS : (PushW SZ b now XB VV LX (a1, a2, a3, a4, a5, a6) dd (dn 14) (dn 17)) W := hS
        rw [f14, f17] at hS
        have g14 : (dn 14 || ((13 : Nat) == 14)) = false := by rw [f14]; rfl
        have g17 : (dn 17 || ((13 : Nat) == 17)) = false := by rw [f17]; rfl
        refine OpGoal.imp (S1 := PushW SZ b now XB VV LX (a1, a2, a3, a4, a5, a6) dd false false) (fun W' h => ?_) ?_
        · show (PushW SZ b now XB VV LX (a1, a2, a3, a4, a5, a6) dd (dn 14 || ((13 : Nat) == 14)) (dn 17 || ((13 : Nat) == 17))) W'
          rw [g14, g17]
          exact h
        clear g14 g17 e1 e2 e3
        obtain rfl : l = [(5, 38), (6, 39), (7, 40), (8, 41), (9, 42), (10, 43), (11, 44), (12, 45)] := hl.symm.trans (by kernel_rfl)
        have p12 : vs 12 = _ := hp 12 (by decide) (by decide)
        clear hp hl
        refine opgoal (_) (some 46) rfl rfl fun K hK => ?_
        refine Runs.mk ?_
        simp only [putAll]
        go_simp
        have hb := below_alloc W (.cells #[.int .i64 a1, .int .i64 a2, .int .i64 a3, .int .i64 a4, .int .i64 a5, .int .i64 a6, .int .i64 dd] TM)
        exact hK _ _ ⟨W.heap.size, rfl, by simp, heap_alloc_new _ _⟩ (hS.below hb) ⟨(fun h => absurd h (by decide)), (fun h => absurd h (by decide)), fun h7 h10 => hb⟩ _ rfl rfl
      · -- 14: Op.call { callee := Callee.builtin Builtin.append, args := #[Operand.tmp 37, Operand.tmp 46], argTypes := #[61, 61] }
        intro l hl vs W dn e1 e2 e3 hS hR hp
        have f14 : dn 14 = false := e1
        have f17 : dn 17 = false := e3 17 (by kernel_rfl)
        replace hS : (PushW SZ b now XB VV LX (a1, a2, a3, a4, a5, a6) dd (dn 14) (dn 17)) W := hS
        rw [f14, f17] at hS
        have g14 : (dn 14 || ((14 : Nat) == 14)) = true := by rw [f14]; rfl
        have g17 : (dn 17 || ((14 : Nat) == 17)) = false := by rw [f17]; rfl
        refine OpGoal.imp (S1 := PushW SZ b now XB VV LX (a1, a2, a3, a4, a5, a6) dd true false) (fun W' h => ?_) ?_
        · show (PushW SZ b now XB VV LX (a1, a2, a3, a4, a5, a6) dd (dn 14 || ((14 : Nat) == 14)) (dn 17 || ((14 : Nat) == 17))) W'
          rw [g14, g17]
          exact h
        clear g14 g17 e1 e2 e3
        obtain rfl : l = [(1, 34), (2, 35), (3, 36), (4, 37), (5, 38), (6, 39), (7, 40), (8, 41), (9, 42), (10, 43), (11, 44), (12, 45), (13, 46)] := hl.symm.trans (by kernel_rfl)
        have p4 : vs 4 = _ := hp 4 (by decide) (by decide)
        have p13 : (fun v W => ∃ j, v = .slice (some ⟨j, 0, none⟩) 1 1 ∧ j < W.heap.size ∧ W.heap[j]? = some (.cells #[.int .i64 a1, .int .i64 a2, .int .i64 a3, .int .i64 a4, .int .i64 a5, .int .i64 a6, .int .i64 dd] TM (0, 0))) (vs 13) W := hp 13 (by decide) (by decide)
        dsimp only at p13
        clear hp hl
        obtain ⟨j, q13, l13, b13⟩ := p13
        refine opgoal ({ dst := some 47, op := Op.call { callee := Callee.builtin Builtin.append, args := #[Operand.tmp 37, Operand.tmp 46], argTypes := #[61, 61] }, type := 61, pos := "wheel.go:56", after := #[{ on := 4, ground := Ground.data }, { on := 13, ground := Ground.data }], guard := none }) (some 47) rfl rfl fun K hK => ?_
        refine runs_append_src W (wanted_none rfl) (.tmp 37) (.tmp 46) (b + 1) 61 TM (.agg #[.int .i64 0, .int .i64 0, .int .i64 0, .int .i64 0, .int .i64 0, .int .i64 0, .int .i64 0]) 7 56 rfl (by kernel_rfl) (by kernel_rfl) rfl (by decide) (by decide) VV LX.length (LX.flatMap encT) ((eval_putAll (j := 4) (by simp) (by decide) (by intro k hk; simpa using hk) p4).trans hVV.out.symm) (hS.own rfl) (some ⟨j, 0, none⟩) 1 1 (eval_putAll (j := 13) (by simp) (by decide) (by intro k hk; simpa using hk) q13) (fun h => by cases h) [.int .i64 a1, .int .i64 a2, .int .i64 a3, .int .i64 a4, .int .i64 a5, .int .i64 a6, .int .i64 dd] rfl (lies_block b13) (by simp [Value.oneCell']) (by have := hsm.out; omega) (Nat.succ_le_of_lt (hS.lt rfl)) ?_
        intro v' w' h1 h2 h3
        have hkk : Keep VV.ownBlock.toList W w' := keep_grown h2 _ (fun j hj _ => by simp [hj])
        exact hK _ _ ⟨h1, h3.elim (fun h => .inl h) (fun h => .inr fun k hk => (by rw [h] at hk; cases hk; exact hS.szw))⟩ (hS.app hkk) ⟨(fun _ => hkk), (fun h => absurd h (by decide)), fun h7 h10 => absurd rfl h7⟩ _ put_dfs (put_slot (by simp))
      · -- 15: Op.nilCheck (Operand.tmp 33)
        intro l hl vs W dn e1 e2 e3 hS hR hp
        have f14 : dn 14 = true := e2 14 (by kernel_rfl)
        have f17 : dn 17 = false := e3 17 (by kernel_rfl)
        replace hS : (PushW SZ b now XB VV LX (a1, a2, a3, a4, a5, a6) dd (dn 14) (dn 17)) W := hS
        rw [f14, f17] at hS
        have g14 : (dn 14 || ((15 : Nat) == 14)) = true := by rw [f14]; rfl
        have g17 : (dn 17 || ((15 : Nat) == 17)) = false := by rw [f17]; rfl
        refine OpGoal.imp (S1 := PushW SZ b now XB VV LX (a1, a2, a3, a4, a5, a6) dd true false) (fun W' h => ?_) ?_
        · show (PushW SZ b now XB VV LX (a1, a2, a3, a4, a5, a6) dd (dn 14 || ((15 : Nat) == 14)) (dn 17 || ((15 : Nat) == 17))) W'
          rw [g14, g17]
          exact h
        clear g14 g17 e1 e2 e3
        obtain rfl : l = [(0, 33), (1, 34), (2, 35), (3, 36), (4, 37), (5, 38), (6, 39), (7, 40), (8, 41), (9, 42), (10, 43), (11, 44), (12, 45), (13, 46), (14, 47)] := hl.symm.trans (by kernel_rfl)
        have p0 : vs 0 = _ := hp 0 (by decide) (by decide)
        clear hp hl
        refine opgoal (_) (some 48) rfl rfl fun K hK => ?_
        refine Runs.mk ?_
        simp only [putAll]
        go_simp
        refine hK _ _ ?_ hS ⟨fun h => absurd h (by decide), fun h => absurd h (by decide), fun h14 h17 => ((fun w => Below.refl _ w) W)⟩ _ rfl rfl
        first | rfl | go_simp | simp
      · -- 16: Op.fieldAddr 63 (Operand.tmp 48) 1
        intro l hl vs W dn e1 e2 e3 hS hR hp
        have f14 : dn 14 = true := e2 14 (by kernel_rfl)
        have f17 : dn 17 = false := e3 17 (by kernel_rfl)
        replace hS : (PushW SZ b now XB VV LX (a1, a2, a3, a4, a5, a6) dd (dn 14) (dn 17)) W := hS
        rw [f14, f17] at hS
        have g14 : (dn 14 || ((16 : Nat) == 14)) = true := by rw [f14]; rfl
        have g17 : (dn 17 || ((16 : Nat) == 17)) = false := by rw [f17]; rfl
        refine OpGoal.imp (S1 := PushW SZ b now XB VV LX (a1, a2, a3, a4, a5, a6) dd true false) (fun W' h => ?_) ?_
        · show (PushW SZ b now XB VV LX (a1, a2, a3, a4, a5, a6) dd (dn 14 || ((16 : Nat) == 14)) (dn 17 || ((16 : Nat) == 17))) W'
          rw [g14, g17]
          exact h
        clear g14 g17 e1 e2 e3
        obtain rfl : l = [(0, 33), (1, 34), (2, 35), (3, 36), (4, 37), (5, 38), (6, 39), (7, 40), (8, 41), (9, 42), (10, 43), (11, 44), (12, 45), (13, 46), (14, 47), (15, 48)] := hl.symm.trans (by kernel_rfl)
        have p15 : vs 15 = _ := hp 15 (by decide) (by decide)
        clear hp hl
        refine opgoal (_) (some 49) rfl rfl fun K hK => ?_
        refine Runs.mk ?_
        simp only [putAll]
        go_simp
        refine hK _ _ ?_ hS ⟨fun h => absurd h (by decide), fun h => absurd h (by decide), fun h14 h17 => ((fun w => Below.refl _ w) W)⟩ _ rfl rfl
        first | rfl | go_simp | simp
      · -- 17: Op.store 61 (Operand.tmp 49) (Operand.tmp 47)
        intro l hl vs W dn e1 e2 e3 hS hR hp
        have f14 : dn 14 = true := e2 14 (by kernel_rfl)
        have f17 : dn 17 = false := e1
        replace hS : (PushW SZ b now XB VV LX (a1, a2, a3, a4, a5, a6) dd (dn 14) (dn 17)) W := hS
        rw [f14, f17] at hS
        have g14 : (dn 14 || ((17 : Nat) == 14)) = true := by rw [f14]; rfl
        have g17 : (dn 17 || ((17 : Nat) == 17)) = true := by rw [f17]; rfl
        refine OpGoal.imp (S1 := PushW SZ b now XB VV LX (a1, a2, a3, a4, a5, a6) dd true true) (fun W' h => ?_) ?_
        · show (PushW SZ b now XB VV LX (a1, a2, a3, a4, a5, a6) dd (dn 14 || ((17 : Nat) == 14)) (dn 17 || ((17 : Nat) == 17))) W'
          rw [g14, g17]
          exact h
        clear g14 g17 e1 e2 e3
        obtain rfl : l = [(0, 33), (1, 34), (2, 35), (3, 36), (4, 37), (5, 38), (6, 39), (7, 40), (8, 41), (9, 42), (10, 43), (11, 44), (12, 45), (13, 46), (14, 47), (15, 48), (16, 49)] := hl.symm.trans (by kernel_rfl)
        have p14 : (fun v W => W.ownsRow (b + 1) TM 7 v (LX.length + 1) (LX.flatMap encT ++ [.int .i64 a1, .int .i64 a2, .int .i64 a3, .int .i64 a4, .int .i64 a5, .int .i64 a6, .int .i64 dd]) ∧ (v.ownBlock = VV.ownBlock ∨ ∀ k, v.ownBlock = some k → SZ ≤ k)) (vs 14) W := hp 14 (by decide) (by decide)
        dsimp only at p14
        have p16 : vs 16 = _ := hp 16 (by decide) (by decide)
        clear hp hl
        obtain ⟨o14, r14⟩ := p14
        refine opgoal (_) (none) rfl rfl fun K hK => ?_
        obtain ⟨A', c', q14⟩ := own_formN o14
        rw [q14] at o14 r14
        have hc1 : W.cell? ⟨b, 1, none⟩ = some VV := (hS.cell rfl).2
        have hf1 : W.frozen? ⟨b, 1, none⟩ = false := frozen_of_row W _ _ _ _ (hS.blk rfl)
        refine Runs.mk ?_
        simp only [putAll]
        go_simp
        exact hK undef _ trivial (hS.fin o14 r14) ⟨(fun h => absurd h (by decide)), (fun _ => (Keep.refl _ _).setCell (p := ⟨b, 1, none⟩) (.inl (by simp)) _), fun h7 h10 => absurd rfl h10⟩ _ rfl rfl
    · intro l hl vs W dn hd hS hR hp
      replace hS : (PushW SZ b now XB VV LX (a1, a2, a3, a4, a5, a6) dd (dn 14) (dn 17)) W := hS
      rw [hd 14 (by decide), hd 17 (by decide)] at hS
      obtain rfl : l = [(0, 33), (1, 34), (2, 35), (3, 36), (4, 37), (5, 38), (6, 39), (7, 40), (8, 41), (9, 42), (10, 43), (11, 44), (12, 45), (13, 46), (14, 47), (15, 48), (16, 49)] := hl.symm.trans (by kernel_rfl)
      have p0 : vs 0 = _ := hp 0 (by decide) (by decide)
      have p1 : vs 1 = _ := hp 1 (by decide) (by decide)
      have p2 : vs 2 = _ := hp 2 (by decide) (by decide)
      have p3 : vs 3 = _ := hp 3 (by decide) (by decide)
      have p4 : vs 4 = _ := hp 4 (by decide) (by decide)
      have p5 : vs 5 = _ := hp 5 (by decide) (by decide)
      have p6 : vs 6 = _ := hp 6 (by decide) (by decide)
      have p7 : vs 7 = _ := hp 7 (by decide) (by decide)
      have p8 : vs 8 = _ := hp 8 (by decide) (by decide)
      have p9 : vs 9 = _ := hp 9 (by decide) (by decide)
      have p10 : vs 10 = _ := hp 10 (by decide) (by decide)
      have p11 : vs 11 = _ := hp 11 (by decide) (by decide)
      have p12 : vs 12 = _ := hp 12 (by decide) (by decide)
      have p15 : vs 15 = _ := hp 15 (by decide) (by decide)
      have p16 : vs 16 = _ := hp 16 (by decide) (by decide)
      have p17 : (fun v W => True) (vs 17) W := hp 17 (by decide) (by decide)
      dsimp only at p17
      clear hp hl
      simp only [putAll_mk, setAll, List.setIfInBounds_toArray, List.set_cons_succ, List.set_cons_zero, p0, p1, p2, p3, p4, p5, p6, p7, p8, p9, p10, p11, p12, p15, p16]
      have HS := Lib.hid hS
      have HR := Lib.hid hR
      clear hS hR p17
      obtain ⟨W9, hW9⟩ : ∃ W9, Hid (W = W9) := ⟨_, Lib.hid rfl⟩
      rw [hW9.out] at HS HR ⊢
      go_wp2_with fail
      go_ret
      exact ⟨rfl, HFIN.out W9 HS.out HR.out⟩
end Go.Proofs.Ytbifmdepkbgnjaa.Wh

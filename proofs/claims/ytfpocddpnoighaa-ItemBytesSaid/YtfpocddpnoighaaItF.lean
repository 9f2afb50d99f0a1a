/- item: are items right? -/
import Derived.Test.YtfpocddpnoighaaItE
namespace Go.Proofs.Ytfpocddpnoighaa.It
open Go.RowKit Go.Proofs.Ytfpocddpnoighaa.L Go.Proofs.Ytfpocddpnoighaa.O Go.Proofs.Ytfpocddpnoighaa.A Go.Proofs.Ytfpocddpnoighaa.R Go.Proofs.Ytfpocddpnoighaa.S Go.Proofs.Ytfpocddpnoighaa.T Go.Proofs.Ytfpocddpnoighaa.E Go.Proofs.Ytfpocddpnoighaa.Wr Go.Proofs.Ytfpocddpnoighaa.F
set_option linter.unusedVariables false
set_option linter.unusedSimpArgs false

structure Im where
  c : Int
  v : Int
  l : Int
  w : Bool
  n : Int
def encIm (x : Im) : List Value := [.int .i64 x.c, .int .i64 x.v, .int .i64 x.l, .bool x.w, .int .i64 x.n]
def goodIm (x : Im) : Prop := (-9223372036854775808 ≤ x.c ∧ x.c ≤ 9223372036854775807) ∧ (-9223372036854775808 ≤ x.v ∧ x.v ≤ 9223372036854775807) ∧ (-9223372036854775808 ≤ x.l ∧ x.l ≤ 9223372036854775807) ∧ (-9223372036854775808 ≤ x.n ∧ x.n ≤ 9223372036854775807)
set_option maxRecDepth 100000 in
theorem opens_im (W : World) : Opens Try.prog W 86 encIm goodIm :=
  Opens.as (opens_struct (w := W) Try.underlying86 (by kernel_rfl) (opens_fc (off' := 1) rfl (by kernel_rfl) (opens_int Try.underlying3) (opens_fc (off' := 2) rfl (by kernel_rfl) (opens_int Try.underlying3) (opens_fc (off' := 3) rfl (by kernel_rfl) (opens_int Try.underlying3) (opens_fc (off' := 4) rfl (by kernel_rfl) (opens_bool Try.underlying4) (opens_fc (off' := 5) rfl (by kernel_rfl) (opens_int Try.underlying3) (opens_f0 5)))))))
    encIm goodIm (fun x => ⟨x.1, x.2.1, x.2.2.1, x.2.2.2.1, x.2.2.2.2.1⟩) (fun _ => rfl) (fun _ h => ⟨i64_range h.1, i64_range h.2.1, i64_range h.2.2.1, i64_range h.2.2.2.2.1⟩)
theorem opens_ims (W : World) : Opens Try.prog W 54 (fun s : Sl Im => [.slice s.A s.n s.c]) (SlOk W 5 40 encIm goodIm) :=
  opens_slice Try.underlying54 (by kernel_rfl) (by omega) (by kernel_rfl) (opens_im W)
/-- items that are read. -/
structure Ims (w : World) (A : Option Addr) (n : Nat) (l : List Im) : Prop where
  rd : RdE w A n 5 (l.map encIm)
  good : ∀ x ∈ l, goodIm x
theorem ims_of {w : World} {s : Sl Im} (h : SlOk w 5 40 encIm goodIm s) : Ims w s.A s.n s.xs := ⟨rdE_of h, fun x hx => (h.2.2.2.2.2.1 x hx).1⟩
theorem Ims.len {w : World} {A : Option Addr} {n : Nat} {l : List Im} (h : Ims w A n l) : l.length = n := by simpa using h.rd.1
theorem Ims.below {w w1 : World} {A : Option Addr} {n : Nat} {l : List Im} (h : Ims w A n l) (hb : Below w.heap.size w w1) : Ims w1 A n l := ⟨h.rd.below hb, h.good⟩
theorem Ims.at {w : World} {A : Option Addr} {n : Nat} {l : List Im} (h : Ims w A n l) (i : Nat) (hi : i < n) (hl : i < l.length) (x : Im) (hx : l[i] = x) : ∃ b o, A = some ⟨b, o, none⟩ ∧
    w.cell? ⟨b, o + i * 5, none⟩ = some (.int .i64 x.c) ∧ w.cell? ⟨b, o + i * 5 + 1, none⟩ = some (.int .i64 x.v) ∧ w.cell? ⟨b, o + i * 5 + 2, none⟩ = some (.int .i64 x.l) ∧ w.cell? ⟨b, o + i * 5 + 3, none⟩ = some (.bool x.w) ∧ w.cell? ⟨b, o + i * 5 + 4, none⟩ = some (.int .i64 x.n) := by
  subst hx
  obtain ⟨b, o, hA, hl, hc⟩ := h.rd.at i hi
  exact ⟨b, o, hA, hc 0 (by omega), hc 1 (by omega), hc 2 (by omega), hc 3 (by omega), hc 4 (by omega)⟩
theorem it_cells {W : World} {g : Nat} {c v l n : Int} {w : Bool} {T : TypeId} (h : W.heap[g]? = some (.cells #[.int .i64 c, .int .i64 v, .int .i64 l, .bool w, .int .i64 n] T (0, 0))) : W.cell? ⟨g, 0, none⟩ = some (.int .i64 c) ∧ W.cell? ⟨g, 1, none⟩ = some (.int .i64 v) ∧ W.cell? ⟨g, 2, none⟩ = some (.int .i64 l) ∧ W.cell? ⟨g, 3, none⟩ = some (.bool w) ∧ W.cell? ⟨g, 4, none⟩ = some (.int .i64 n) :=
  ⟨by rw [cell_of_row _ _ _ _ _ _ h]; rfl, by rw [cell_of_row _ _ _ _ _ _ h]; rfl, by rw [cell_of_row _ _ _ _ _ _ h]; rfl, by rw [cell_of_row _ _ _ _ _ _ h]; rfl, by rw [cell_of_row _ _ _ _ _ _ h]; rfl⟩
/-- is an item right? -/
def itemR (x : Im) : Bool := inB 0 15 [x.c] && (inB 0 1099511627775 [x.v] && (x.w || x.n == 0))
set_option maxHeartbeats 1000000 in
theorem right_any (x : Im) (w : World) (q : Bool) (hq : itemR x = q) : Calls Try.prog 92 #[.agg #[.int .i64 x.c, .int .i64 x.v, .int .i64 x.l, .bool x.w, .int .i64 x.n]] w fun e w' => e = .returned (.bool q) ∧ Below w.heap.size w w' := by
  obtain ⟨c, v, l, wr, n⟩ := x
  obtain ⟨p1, hp1⟩ : ∃ p, Hid (inB 0 15 [c] = p) := ⟨_, Lib.hid rfl⟩
  obtain ⟨p2, hp2⟩ : ∃ p, Hid (inB 0 1099511627775 [v] = p) := ⟨_, Lib.hid rfl⟩
  have hqq : Hid ((p1 && (p2 && (wr || n == 0))) = q) := Lib.hid (by rw [← hp1.out, ← hp2.out]; exact hq)
  clear hq
  obtain ⟨g, hg⟩ : ∃ g, Hid (w.heap.size = g) := ⟨_, Lib.hid rfl⟩
  obtain ⟨W0, hW0⟩ : ∃ W0, Hid ((w.alloc (.cells #[.int .i64 c, .int .i64 v, .int .i64 l, .bool wr, .int .i64 n] 86)).alloc (.cells #[.int .i64 c] 3) = W0) := ⟨_, Lib.hid rfl⟩
  have hb0 : Hid (Below w.heap.size w W0) := Lib.hid (by rw [← hW0.out]; exact below2 (below_alloc _ _) (below_alloc _ _))
  have hrd : Hid (Rd W0 (some ⟨g + 1, 0, none⟩) 1 ([c].map (Value.int .i64))) := Lib.hid (by
    rw [← hW0.out, ← hg.out]
    have := heap_alloc_new (w.alloc (.cells #[.int .i64 c, .int .i64 v, .int .i64 l, .bool wr, .int .i64 n] 86)) (.cells #[.int .i64 c] 3)
    rw [World.size_alloc] at this
    exact rd_ints 1 this (by simp) rfl (by decide))
  have htd : Hid (W0.heap[g]? = some (.cells #[.int .i64 c, .int .i64 v, .int .i64 l, .bool wr, .int .i64 n] 86 (0, 0))) := Lib.hid (by
    rw [← hW0.out, ← hg.out, heap_alloc_old _ _ (by simp)]; exact heap_alloc_new _ _)
  go_enter Try.func92, Try.ntmps92
  go_wp2_with fail
  rw [hW0.out, hg.out]
  refine (in_any 0 15 _ 1 1 [c] W0 hrd.out p1 hp1.out).mono ?_
  rintro e w1 ⟨rfl, hb1⟩
  have ht1 := Lib.hid (keep_block (.of_below (S := []) hb1) htd.out (by simp))
  obtain ⟨f0, f1, f2, f3, f4⟩ := it_cells ht1.out
  have HB1 := Lib.hid (below2 hb0.out hb1)
  clear hb1
  cases p1
  case false =>
    go_wp2
    go_ret
    exact ⟨retv (congrArg Value.bool hqq.out), HB1.out⟩
  case true =>
    go_wp2_with fail
    refine (in_any 0 1099511627775 _ 1 1 [v] _ (rd_ints 1 (heap_alloc_new _ _) (by simp) rfl (by decide)) p2 hp2.out).mono ?_
    rintro e w2 ⟨rfl, hb2⟩
    have HB2 := Lib.hid (below2 (below2 HB1.out (below_alloc _ _)) hb2)
    clear f0 f1 f2 f3 f4
    obtain ⟨f0, f1, f2, f3, f4⟩ := it_cells (keep_block (.of_below (S := []) (below2 (below_alloc _ _) hb2)) ht1.out (by simp))
    clear hb2
    cases p2
    case false =>
      go_wp2
      go_ret
      exact ⟨retv (congrArg Value.bool hqq.out), HB2.out⟩
    case true =>
      cases wr
      case true =>
        go_wp2
        go_ret
        exact ⟨retv (congrArg Value.bool hqq.out), HB2.out⟩
      case false =>
        go_wp2
        go_ret
        exact ⟨retv (congrArg Value.bool hqq.out), HB2.out⟩
/-- are items right? -/
def im0 : Im := ⟨0, 0, 0, false, 0⟩
def okAt (l : List Im) (i : Nat) : Bool := itemR (l.getD i im0) && (i == 0 || decide ((l.getD (i - 1) im0).c < (l.getD i im0).c))
def itemsR (l : List Im) : Bool := (List.range l.length).all (okAt l) && decide (0 < l.length)
theorem itemsR_no {l : List Im} {k : Nat} (hk : k < l.length) (h : okAt l k = false) : itemsR l = false := by
  have : (List.range l.length).all (okAt l) = false := by
    rw [List.all_eq_false]
    exact ⟨k, List.mem_range.2 hk, by simp [h]⟩
  simp [itemsR, this]
theorem itemsR_end {l : List Im} (h : ∀ j, j < l.length → okAt l j = true) : itemsR l = decide (0 < l.length) := by
  have : (List.range l.length).all (okAt l) = true := by
    rw [List.all_eq_true]
    intro j hj
    exact h j (List.mem_range.1 hj)
  simp [itemsR, this]
set_option maxHeartbeats 4000000 in
set_option maxRecDepth 100000 in
theorem rightitems_any (A : Option Addr) (n ca : Nat) (l : List Im) (w : World) (h : Ims w A n l) (q : Bool) (hq' : itemsR l = q) : Calls Try.prog 36 #[.slice A n ca] w fun e w' => e = .returned (.bool q) ∧ Below w.heap.size w w' := by
  have hn9 := h.rd.2.1
  have H := Lib.hid h
  have HN := Lib.hid h.len
  have hq := Lib.hid hq'
  clear h hq'
  go_enter Try.func36, Try.ntmps36
  go_wp2
  go_loopw [7] (fun i wr => ∃ k : Nat, k ≤ n ∧ i = .int .i64 k ∧ Below w.heap.size w wr ∧ Hid (∀ j, j < k → okAt l j = true)) (fun i _ => n - (intOf i).toNat)
  case atStart => exact ⟨0, by omega, rfl, Below.refl _ _, Lib.hid fun j h => absurd h (by omega)⟩
  case round =>
    obtain ⟨k, hk, rfl, hb, hok⟩ := hrel
    by_cases hlt : k < n
    · have hkl : k < l.length := by have := HN.out; omega
      obtain ⟨x, hx⟩ : ∃ x, Hid (l[k] = x) := ⟨_, Lib.hid rfl⟩
      obtain ⟨ab, ao, hAe, c0, c1, c2, c3, c4⟩ := (H.out.below hb).at k hlt hkl x hx.out
      subst hAe
      have hgx : Hid (l.getD k im0 = x) := Lib.hid (by rw [List.getD_eq_getElem?_getD, List.getElem?_eq_getElem hkl, hx.out]; rfl)
      obtain ⟨gb, hgb⟩ : ∃ g, Hid (wr.heap.size = g) := ⟨_, Lib.hid rfl⟩
      obtain ⟨xc, xv, xl, xw, xn⟩ := x
      dsimp only at c0 c1 c2 c3 c4
      obtain ⟨W1, hW1⟩ : ∃ W1, Hid (wr.alloc (.cells #[.int .i64 xc, .int .i64 xv, .int .i64 xl, .bool xw, .int .i64 xn] 86) = W1) := ⟨_, Lib.hid rfl⟩
      have hb1 : Below wr.heap.size wr W1 := by rw [← hW1.out]; exact below_alloc _ _
      have hS0 : Below w.heap.size w W1.drew ∧ W1.drew.heap[gb]? = some (.cells #[.int .i64 xc, .int .i64 xv, .int .i64 xl, .bool xw, .int .i64 xn] 86 (0, 0)) := ⟨(below2 hb hb1).drew, by
        show W1.heap[gb]? = _
        rw [← hW1.out, ← hgb.out]; exact heap_alloc_new _ _⟩
      cases hQ : itemR ⟨xc, xv, xl, xw, xn⟩
      case false =>
        have HQ := Lib.hid hQ
        have HF : Hid (q = false) := Lib.hid (by rw [← hq.out]; exact itemsR_no hkl (by unfold okAt; rw [hgx.out, hQ]; rfl))
        clear hQ hb1 hb
        go_wp2_with fail
        rw [hW1.out, hgb.out]
        refine wp_region_one (fun W => Below w.heap.size w W ∧ W.heap[gb]? = some (.cells #[.int .i64 xc, .int .i64 xv, .int .i64 xl, .bool xw, .int .i64 xn] 86 (0, 0))) (fun u v => Below u.heap.size u v) (fun a i => match i with
            | 0 => (fun v _ => v = .agg #[.int .i64 xc, .int .i64 xv, .int .i64 xl, .bool xw, .int .i64 xn])
            | 1 => (fun v _ => v = .bool false)
            | 2 => (fun v _ => v = .bool true)
            | 3 => (fun v _ => v = .bool true)
            | 4 => (fun v _ => v = undef)
            | 5 => (fun v _ => v = undef)
            | 6 => (fun v _ => v = undef)
            | 7 => (fun v _ => v = undef)
            | 8 => (fun v _ => v = undef)
            | 9 => (fun v _ => v = undef)
            | 10 => (fun v _ => v = undef)
            | 11 => (fun v _ => v = undef)
            | 12 => (fun v _ => v = undef)
            | 13 => (fun v _ => v = undef)
            | 14 => (fun v _ => v = undef)
            | 15 => (fun v _ => v = undef)
            | 16 => (fun v _ => v = undef)
            | 17 => (fun v _ => v = .bool true)
            | _ => (fun _ _ => True)) #[0, 1, 3, 7, 15, 31, 63, 127, 127, 383, 1023, 2047, 4095, 127, 8319, 32767, 65535, 131071] #[0, 1, 2, 4, 8, 24, 40, 64, 64, 320, 704, 1088, 2112, 64, 8256, 20544, 32840, 65544] 262143 (by kernel_rfl) 18 rfl (fun m hm => by subst hm; kernel_rfl) (by kernel_rfl) (fun w => Below.refl _ w) (fun u v w h1 h2 => below2 h1 h2) ?_ (hS0) ?_ ?_
        · intro i hi
          rcases (by omega : i = 0 ∨ i = 1 ∨ i = 2 ∨ i = 3 ∨ i = 4 ∨ i = 5 ∨ i = 6 ∨ i = 7 ∨ i = 8 ∨ i = 9 ∨ i = 10 ∨ i = 11 ∨ i = 12 ∨ i = 13 ∨ i = 14 ∨ i = 15 ∨ i = 16 ∨ i = 17) with rfl | rfl | rfl | rfl | rfl | rfl | rfl | rfl | rfl | rfl | rfl | rfl | rfl | rfl | rfl | rfl | rfl | rfl
          · exact fun v w w' h hr => by exact h
          · exact fun v w w' h hr => by exact h
          · exact fun v w w' h hr => by exact h
          · exact fun v w w' h hr => by exact h
          · exact fun v w w' h hr => by exact h
          · exact fun v w w' h hr => by exact h
          · exact fun v w w' h hr => by exact h
          · exact fun v w w' h hr => by exact h
          · exact fun v w w' h hr => by exact h
          · exact fun v w w' h hr => by exact h
          · exact fun v w w' h hr => by exact h
          · exact fun v w w' h hr => by exact h
          · exact fun v w w' h hr => by exact h
          · exact fun v w w' h hr => by exact h
          · exact fun v w w' h hr => by exact h
          · exact fun v w w' h hr => by exact h
          · exact fun v w w' h hr => by exact h
          · exact fun v w w' h hr => by exact h
        · intro i hi
          rcases (by omega : i = 0 ∨ i = 1 ∨ i = 2 ∨ i = 3 ∨ i = 4 ∨ i = 5 ∨ i = 6 ∨ i = 7 ∨ i = 8 ∨ i = 9 ∨ i = 10 ∨ i = 11 ∨ i = 12 ∨ i = 13 ∨ i = 14 ∨ i = 15 ∨ i = 16 ∨ i = 17) with rfl | rfl | rfl | rfl | rfl | rfl | rfl | rfl | rfl | rfl | rfl | rfl | rfl | rfl | rfl | rfl | rfl | rfl
          · -- 0: Op.load 86 (Operand.tmp 4)
            intro l hl vs W hS hR hp
            obtain rfl : l = [] := hl.symm.trans (by kernel_rfl)
            clear hp hl
            refine opgoal (_) (some 12) rfl rfl fun K hK => ?_
            obtain ⟨f0, f1, f2, f3, f4⟩ := it_cells hS.2
            refine Runs.mk ?_
            simp only [putAll]
            go_simp
            refine hK _ _ ?_ hS ((fun w => Below.refl _ w) W) _ rfl rfl
            first | rfl | go_simp | simp
          · -- 1: Op.call { callee := Callee.value (Operand.func 92), args := #[Operand.tmp 12], argTypes := #[86] }
            intro l hl vs W hS hR hp
            obtain rfl : l = [(0, 12)] := hl.symm.trans (by kernel_rfl)
            have p0 : vs 0 = _ := hp 0 (by decide) (by decide)
            clear hp hl
            refine opgoal (_) (some 13) rfl rfl fun K hK => ?_
            refine Runs.mk ?_
            simp only [putAll]
            go_simp
            refine (right_any ⟨xc, xv, xl, xw, xn⟩ W false HQ.out).mono ?_
            rintro e w' ⟨rfl, hb⟩
            go_simp
            exact hK _ _ rfl ⟨below2 hS.1 hb, keep_block (.of_below (S := []) hb) hS.2 (by simp)⟩ hb _ rfl rfl
          · -- 2: Op.unOp UnOp.not 4 (Operand.tmp 13)
            intro l hl vs W hS hR hp
            obtain rfl : l = [(0, 12), (1, 13)] := hl.symm.trans (by kernel_rfl)
            have p1 : vs 1 = _ := hp 1 (by decide) (by decide)
            clear hp hl
            refine opgoal (_) (some 14) rfl rfl fun K hK => ?_
            refine Runs.mk ?_
            simp only [putAll]
            go_simp
            refine hK _ _ ?_ hS ((fun w => Below.refl _ w) W) _ rfl rfl
            first | rfl | go_simp | simp
          · -- 3: Op.move (Operand.tmp 14)
            intro l hl vs W hS hR hp
            obtain rfl : l = [(0, 12), (1, 13), (2, 14)] := hl.symm.trans (by kernel_rfl)
            have p2 : vs 2 = _ := hp 2 (by decide) (by decide)
            clear hp hl
            refine opgoal (_) (some 15) rfl rfl fun K hK => ?_
            refine Runs.mk ?_
            simp only [putAll]
            go_simp
            refine hK _ _ ?_ hS ((fun w => Below.refl _ w) W) _ rfl rfl
            first | rfl | go_simp | simp
          · -- 4: Op.move (Operand.tmp 3)  [(3, 'false')]
            intro l hl vs W hS hR hp
            obtain rfl : l = [(0, 12), (1, 13), (2, 14), (3, 15)] := hl.symm.trans (by kernel_rfl)
            have p3 : vs 3 = _ := hp 3 (by decide) (by decide)
            clear hp hl
            refine opgoal (_) (some 16) rfl rfl fun K hK => ?_
            refine Runs.mk ?_
            simp only [putAll]
            go_simp
            refine hK _ _ ?_ hS ((fun w => Below.refl _ w) W) _ rfl rfl
            first | rfl | go_simp | simp
          · -- 5: Op.binOp BinOp.gtr 3 (Operand.tmp 16) (Operand.const (Value.int IntKind.i64 0)) 3  [(3, 'false')]
            intro l hl vs W hS hR hp
            obtain rfl : l = [(0, 12), (1, 13), (2, 14), (3, 15), (4, 16)] := hl.symm.trans (by kernel_rfl)
            have p3 : vs 3 = _ := hp 3 (by decide) (by decide)
            have p4 : vs 4 = _ := hp 4 (by decide) (by decide)
            clear hp hl
            refine opgoal (_) (some 17) rfl rfl fun K hK => ?_
            refine Runs.mk ?_
            simp only [putAll]
            go_simp
            refine hK _ _ ?_ hS ((fun w => Below.refl _ w) W) _ rfl rfl
            first | rfl | go_simp | simp
          · -- 6: Op.move (Operand.tmp 17)  [(3, 'false')]
            intro l hl vs W hS hR hp
            obtain rfl : l = [(0, 12), (1, 13), (2, 14), (3, 15), (4, 16), (5, 17)] := hl.symm.trans (by kernel_rfl)
            have p3 : vs 3 = _ := hp 3 (by decide) (by decide)
            have p5 : vs 5 = _ := hp 5 (by decide) (by decide)
            clear hp hl
            refine opgoal (_) (some 18) rfl rfl fun K hK => ?_
            refine Runs.mk ?_
            simp only [putAll]
            go_simp
            refine hK _ _ ?_ hS ((fun w => Below.refl _ w) W) _ rfl rfl
            first | rfl | go_simp | simp
          · -- 7: Op.move (Operand.tmp 0)  [(6, 'true')]
            intro l hl vs W hS hR hp
            obtain rfl : l = [(0, 12), (1, 13), (2, 14), (3, 15), (4, 16), (5, 17), (6, 18)] := hl.symm.trans (by kernel_rfl)
            have p6 : vs 6 = _ := hp 6 (by decide) (by decide)
            clear hp hl
            refine opgoal (_) (some 19) rfl rfl fun K hK => ?_
            refine Runs.mk ?_
            simp only [putAll]
            go_simp
            refine hK _ _ ?_ hS ((fun w => Below.refl _ w) W) _ rfl rfl
            first | rfl | go_simp | simp
          · -- 8: Op.move (Operand.tmp 3)  [(6, 'true')]
            intro l hl vs W hS hR hp
            obtain rfl : l = [(0, 12), (1, 13), (2, 14), (3, 15), (4, 16), (5, 17), (6, 18)] := hl.symm.trans (by kernel_rfl)
            have p6 : vs 6 = _ := hp 6 (by decide) (by decide)
            clear hp hl
            refine opgoal (_) (some 20) rfl rfl fun K hK => ?_
            refine Runs.mk ?_
            simp only [putAll]
            go_simp
            refine hK _ _ ?_ hS ((fun w => Below.refl _ w) W) _ rfl rfl
            first | rfl | go_simp | simp
          · -- 9: Op.binOp BinOp.sub 3 (Operand.tmp 20) (Operand.const (Value.int IntKind.i64 1)) 3  [(6, 'true')]
            intro l hl vs W hS hR hp
            obtain rfl : l = [(0, 12), (1, 13), (2, 14), (3, 15), (4, 16), (5, 17), (6, 18), (8, 20)] := hl.symm.trans (by kernel_rfl)
            have p6 : vs 6 = _ := hp 6 (by decide) (by decide)
            have p8 : vs 8 = _ := hp 8 (by decide) (by decide)
            clear hp hl
            refine opgoal (_) (some 21) rfl rfl fun K hK => ?_
            refine Runs.mk ?_
            simp only [putAll]
            go_simp
            refine hK _ _ ?_ hS ((fun w => Below.refl _ w) W) _ rfl rfl
            first | rfl | go_simp | simp
          · -- 10: Op.indexAddr 54 (Operand.tmp 19) (Operand.tmp 21)  [(6, 'true')]
            intro l hl vs W hS hR hp
            obtain rfl : l = [(0, 12), (1, 13), (2, 14), (3, 15), (4, 16), (5, 17), (6, 18), (7, 19), (8, 20), (9, 21)] := hl.symm.trans (by kernel_rfl)
            have p6 : vs 6 = _ := hp 6 (by decide) (by decide)
            have p7 : vs 7 = _ := hp 7 (by decide) (by decide)
            have p9 : vs 9 = _ := hp 9 (by decide) (by decide)
            clear hp hl
            refine opgoal (_) (some 22) rfl rfl fun K hK => ?_
            refine Runs.mk ?_
            simp only [putAll]
            go_simp
            refine hK _ _ ?_ hS ((fun w => Below.refl _ w) W) _ rfl rfl
            first | rfl | go_simp | simp
          · -- 11: Op.fieldAddr 86 (Operand.tmp 22) 0  [(6, 'true')]
            intro l hl vs W hS hR hp
            obtain rfl : l = [(0, 12), (1, 13), (2, 14), (3, 15), (4, 16), (5, 17), (6, 18), (7, 19), (8, 20), (9, 21), (10, 22)] := hl.symm.trans (by kernel_rfl)
            have p6 : vs 6 = _ := hp 6 (by decide) (by decide)
            have p10 : vs 10 = _ := hp 10 (by decide) (by decide)
            clear hp hl
            refine opgoal (_) (some 23) rfl rfl fun K hK => ?_
            refine Runs.mk ?_
            simp only [putAll]
            go_simp
            refine hK _ _ ?_ hS ((fun w => Below.refl _ w) W) _ rfl rfl
            first | rfl | go_simp | simp
          · -- 12: Op.load 3 (Operand.tmp 23)  [(6, 'true')]
            intro l hl vs W hS hR hp
            obtain rfl : l = [(0, 12), (1, 13), (2, 14), (3, 15), (4, 16), (5, 17), (6, 18), (7, 19), (8, 20), (9, 21), (10, 22), (11, 23)] := hl.symm.trans (by kernel_rfl)
            have p6 : vs 6 = _ := hp 6 (by decide) (by decide)
            have p11 : vs 11 = _ := hp 11 (by decide) (by decide)
            clear hp hl
            refine opgoal (_) (some 24) rfl rfl fun K hK => ?_
            refine Runs.mk ?_
            simp only [putAll]
            go_simp
            refine hK _ _ ?_ hS ((fun w => Below.refl _ w) W) _ rfl rfl
            first | rfl | go_simp | simp
          · -- 13: Op.fieldAddr 86 (Operand.tmp 4) 0  [(6, 'true')]
            intro l hl vs W hS hR hp
            obtain rfl : l = [(0, 12), (1, 13), (2, 14), (3, 15), (4, 16), (5, 17), (6, 18)] := hl.symm.trans (by kernel_rfl)
            have p6 : vs 6 = _ := hp 6 (by decide) (by decide)
            clear hp hl
            refine opgoal (_) (some 25) rfl rfl fun K hK => ?_
            refine Runs.mk ?_
            simp only [putAll]
            go_simp
            refine hK _ _ ?_ hS ((fun w => Below.refl _ w) W) _ rfl rfl
            first | rfl | go_simp | simp
          · -- 14: Op.load 3 (Operand.tmp 25)  [(6, 'true')]
            intro l hl vs W hS hR hp
            obtain rfl : l = [(0, 12), (1, 13), (2, 14), (3, 15), (4, 16), (5, 17), (6, 18), (13, 25)] := hl.symm.trans (by kernel_rfl)
            have p6 : vs 6 = _ := hp 6 (by decide) (by decide)
            have p13 : vs 13 = _ := hp 13 (by decide) (by decide)
            clear hp hl
            refine opgoal (_) (some 26) rfl rfl fun K hK => ?_
            refine Runs.mk ?_
            simp only [putAll]
            go_simp
            refine hK _ _ ?_ hS ((fun w => Below.refl _ w) W) _ rfl rfl
            first | rfl | go_simp | simp
          · -- 15: Op.binOp BinOp.geq 3 (Operand.tmp 24) (Operand.tmp 26) 3  [(6, 'true')]
            intro l hl vs W hS hR hp
            obtain rfl : l = [(0, 12), (1, 13), (2, 14), (3, 15), (4, 16), (5, 17), (6, 18), (7, 19), (8, 20), (9, 21), (10, 22), (11, 23), (12, 24), (13, 25), (14, 26)] := hl.symm.trans (by kernel_rfl)
            have p6 : vs 6 = _ := hp 6 (by decide) (by decide)
            have p12 : vs 12 = _ := hp 12 (by decide) (by decide)
            have p14 : vs 14 = _ := hp 14 (by decide) (by decide)
            clear hp hl
            refine opgoal (_) (some 27) rfl rfl fun K hK => ?_
            refine Runs.mk ?_
            simp only [putAll]
            go_simp
            refine hK _ _ ?_ hS ((fun w => Below.refl _ w) W) _ rfl rfl
            first | rfl | go_simp | simp
          · -- 16: Op.pick (Operand.tmp 18) (Operand.tmp 27) (Operand.const (Value.bool false))  [(3, 'false')]
            intro l hl vs W hS hR hp
            obtain rfl : l = [(0, 12), (1, 13), (2, 14), (3, 15), (4, 16), (5, 17), (6, 18), (7, 19), (8, 20), (9, 21), (10, 22), (11, 23), (12, 24), (13, 25), (14, 26), (15, 27)] := hl.symm.trans (by kernel_rfl)
            have p3 : vs 3 = _ := hp 3 (by decide) (by decide)
            have p6 : vs 6 = _ := hp 6 (by decide) (by decide)
            have p15 : vs 15 = _ := hp 15 (by decide) (by decide)
            clear hp hl
            refine opgoal (_) (some 28) rfl rfl fun K hK => ?_
            refine Runs.mk ?_
            simp only [putAll]
            go_simp
            refine hK _ _ ?_ hS ((fun w => Below.refl _ w) W) _ rfl rfl
            first | rfl | go_simp | simp
          · -- 17: Op.pick (Operand.tmp 15) (Operand.const (Value.bool true)) (Operand.tmp 28)
            intro l hl vs W hS hR hp
            obtain rfl : l = [(0, 12), (1, 13), (2, 14), (3, 15), (4, 16), (5, 17), (6, 18), (7, 19), (8, 20), (9, 21), (10, 22), (11, 23), (12, 24), (13, 25), (14, 26), (15, 27), (16, 28)] := hl.symm.trans (by kernel_rfl)
            have p3 : vs 3 = _ := hp 3 (by decide) (by decide)
            have p16 : vs 16 = _ := hp 16 (by decide) (by decide)
            clear hp hl
            refine opgoal (_) (some 29) rfl rfl fun K hK => ?_
            refine Runs.mk ?_
            simp only [putAll]
            go_simp
            refine hK _ _ ?_ hS ((fun w => Below.refl _ w) W) _ rfl rfl
            first | rfl | go_simp | simp
        · intro l hl vs W hS hR hp
          obtain rfl : l = [(0, 12), (1, 13), (2, 14), (3, 15), (4, 16), (5, 17), (6, 18), (7, 19), (8, 20), (9, 21), (10, 22), (11, 23), (12, 24), (13, 25), (14, 26), (15, 27), (16, 28), (17, 29)] := hl.symm.trans (by kernel_rfl)
          have p0 : vs 0 = _ := hp 0 (by decide) (by decide)
          have p1 : vs 1 = _ := hp 1 (by decide) (by decide)
          have p2 : vs 2 = _ := hp 2 (by decide) (by decide)
          have p3 : vs 3 = _ := hp 3 (by decide) (by decide)
          have p4 : vs 4 = _ := hp 4 (by decide) (by decide)
          have p5 : vs 5 = _ := hp 5 (by decide) (by decide)
          have p6 : vs 6 = _ := hp 6 (by decide) (by decide)
          have p7 : vs 7 = _ := hp 7 (by decide) (by decide)
          have p8 : vs 8 = _ := hp 8 (by decide) (by decide)
          have p9 : vs 9 = _ := hp 9 (by decide) (by decide)
          have p10 : vs 10 = _ := hp 10 (by decide) (by decide)
          have p11 : vs 11 = _ := hp 11 (by decide) (by decide)
          have p12 : vs 12 = _ := hp 12 (by decide) (by decide)
          have p13 : vs 13 = _ := hp 13 (by decide) (by decide)
          have p14 : vs 14 = _ := hp 14 (by decide) (by decide)
          have p15 : vs 15 = _ := hp 15 (by decide) (by decide)
          have p16 : vs 16 = _ := hp 16 (by decide) (by decide)
          have p17 : vs 17 = _ := hp 17 (by decide) (by decide)
          clear hp hl
          simp only [putAll_mk, setAll, List.setIfInBounds_toArray, List.set_cons_succ, List.set_cons_zero, p0, p1, p2, p3, p4, p5, p6, p7, p8, p9, p10, p11, p12, p13, p14, p15, p16, p17]
          have HS := Lib.hid hS.1
          clear hS hR hS0
          go_wp2
          go_ret
          exact ⟨retbf HF.out, HS.out⟩
      case true =>
        have HQ := Lib.hid hQ
        cases k with
        | zero =>
          have HST : Hid (∀ j, j < 1 → okAt l j = true) := Lib.hid (by
            intro j hj
            obtain rfl : j = 0 := by omega
            unfold okAt
            rw [hgx.out, hQ]
            rfl)
          simp only [Nat.zero_mul, Nat.add_zero] at c0 c1 c2 c3 c4
          rw [show ((0 : Nat) : Int) = 0 from rfl]
          clear hQ hb1 hb
          go_wp2_with fail
          rw [hW1.out, hgb.out]
          refine wp_region_one (fun W => Below w.heap.size w W ∧ W.heap[gb]? = some (.cells #[.int .i64 xc, .int .i64 xv, .int .i64 xl, .bool xw, .int .i64 xn] 86 (0, 0))) (fun u v => Below u.heap.size u v) (fun a i => match i with
              | 0 => (fun v _ => v = .agg #[.int .i64 xc, .int .i64 xv, .int .i64 xl, .bool xw, .int .i64 xn])
              | 1 => (fun v _ => v = .bool true)
              | 2 => (fun v _ => v = .bool false)
              | 3 => (fun v _ => v = .bool false)
              | 4 => (fun v _ => v = .int .i64 0)
              | 5 => (fun v _ => v = .bool false)
              | 6 => (fun v _ => v = .bool false)
              | 7 => (fun v _ => v = undef)
              | 8 => (fun v _ => v = undef)
              | 9 => (fun v _ => v = undef)
              | 10 => (fun v _ => v = undef)
              | 11 => (fun v _ => v = undef)
              | 12 => (fun v _ => v = undef)
              | 13 => (fun v _ => v = undef)
              | 14 => (fun v _ => v = undef)
              | 15 => (fun v _ => v = undef)
              | 16 => (fun v _ => v = .bool false)
              | 17 => (fun v _ => v = .bool false)
              | _ => (fun _ _ => True)) #[0, 1, 3, 7, 15, 31, 63, 127, 127, 383, 1023, 2047, 4095, 127, 8319, 32767, 65535, 131071] #[0, 1, 2, 4, 8, 24, 40, 64, 64, 320, 704, 1088, 2112, 64, 8256, 20544, 32840, 65544] 262143 (by kernel_rfl) 18 rfl (fun m hm => by subst hm; kernel_rfl) (by kernel_rfl) (fun w => Below.refl _ w) (fun u v w h1 h2 => below2 h1 h2) ?_ (hS0) ?_ ?_
          · intro i hi
            rcases (by omega : i = 0 ∨ i = 1 ∨ i = 2 ∨ i = 3 ∨ i = 4 ∨ i = 5 ∨ i = 6 ∨ i = 7 ∨ i = 8 ∨ i = 9 ∨ i = 10 ∨ i = 11 ∨ i = 12 ∨ i = 13 ∨ i = 14 ∨ i = 15 ∨ i = 16 ∨ i = 17) with rfl | rfl | rfl | rfl | rfl | rfl | rfl | rfl | rfl | rfl | rfl | rfl | rfl | rfl | rfl | rfl | rfl | rfl
            · exact fun v w w' h hr => by exact h
            · exact fun v w w' h hr => by exact h
            · exact fun v w w' h hr => by exact h
            · exact fun v w w' h hr => by exact h
            · exact fun v w w' h hr => by exact h
            · exact fun v w w' h hr => by exact h
            · exact fun v w w' h hr => by exact h
            · exact fun v w w' h hr => by exact h
            · exact fun v w w' h hr => by exact h
            · exact fun v w w' h hr => by exact h
            · exact fun v w w' h hr => by exact h
            · exact fun v w w' h hr => by exact h
            · exact fun v w w' h hr => by exact h
            · exact fun v w w' h hr => by exact h
            · exact fun v w w' h hr => by exact h
            · exact fun v w w' h hr => by exact h
            · exact fun v w w' h hr => by exact h
            · exact fun v w w' h hr => by exact h
          · intro i hi
            rcases (by omega : i = 0 ∨ i = 1 ∨ i = 2 ∨ i = 3 ∨ i = 4 ∨ i = 5 ∨ i = 6 ∨ i = 7 ∨ i = 8 ∨ i = 9 ∨ i = 10 ∨ i = 11 ∨ i = 12 ∨ i = 13 ∨ i = 14 ∨ i = 15 ∨ i = 16 ∨ i = 17) with rfl | rfl | rfl | rfl | rfl | rfl | rfl | rfl | rfl | rfl | rfl | rfl | rfl | rfl | rfl | rfl | rfl | rfl
            · -- 0: Op.load 86 (Operand.tmp 4)
              intro l hl vs W hS hR hp
              obtain rfl : l = [] := hl.symm.trans (by kernel_rfl)
              clear hp hl
              refine opgoal (_) (some 12) rfl rfl fun K hK => ?_
              obtain ⟨f0, f1, f2, f3, f4⟩ := it_cells hS.2
              refine Runs.mk ?_
              simp only [putAll]
              go_simp
              refine hK _ _ ?_ hS ((fun w => Below.refl _ w) W) _ rfl rfl
              first | rfl | go_simp | simp
            · -- 1: Op.call { callee := Callee.value (Operand.func 92), args := #[Operand.tmp 12], argTypes := #[86] }
              intro l hl vs W hS hR hp
              obtain rfl : l = [(0, 12)] := hl.symm.trans (by kernel_rfl)
              have p0 : vs 0 = _ := hp 0 (by decide) (by decide)
              clear hp hl
              refine opgoal (_) (some 13) rfl rfl fun K hK => ?_
              refine Runs.mk ?_
              simp only [putAll]
              go_simp
              refine (right_any ⟨xc, xv, xl, xw, xn⟩ W true HQ.out).mono ?_
              rintro e w' ⟨rfl, hb⟩
              go_simp
              exact hK _ _ rfl ⟨below2 hS.1 hb, keep_block (.of_below (S := []) hb) hS.2 (by simp)⟩ hb _ rfl rfl
            · -- 2: Op.unOp UnOp.not 4 (Operand.tmp 13)
              intro l hl vs W hS hR hp
              obtain rfl : l = [(0, 12), (1, 13)] := hl.symm.trans (by kernel_rfl)
              have p1 : vs 1 = _ := hp 1 (by decide) (by decide)
              clear hp hl
              refine opgoal (_) (some 14) rfl rfl fun K hK => ?_
              refine Runs.mk ?_
              simp only [putAll]
              go_simp
              refine hK _ _ ?_ hS ((fun w => Below.refl _ w) W) _ rfl rfl
              first | rfl | go_simp | simp
            · -- 3: Op.move (Operand.tmp 14)
              intro l hl vs W hS hR hp
              obtain rfl : l = [(0, 12), (1, 13), (2, 14)] := hl.symm.trans (by kernel_rfl)
              have p2 : vs 2 = _ := hp 2 (by decide) (by decide)
              clear hp hl
              refine opgoal (_) (some 15) rfl rfl fun K hK => ?_
              refine Runs.mk ?_
              simp only [putAll]
              go_simp
              refine hK _ _ ?_ hS ((fun w => Below.refl _ w) W) _ rfl rfl
              first | rfl | go_simp | simp
            · -- 4: Op.move (Operand.tmp 3)  [(3, 'false')]
              intro l hl vs W hS hR hp
              obtain rfl : l = [(0, 12), (1, 13), (2, 14), (3, 15)] := hl.symm.trans (by kernel_rfl)
              have p3 : vs 3 = _ := hp 3 (by decide) (by decide)
              clear hp hl
              refine opgoal (_) (some 16) rfl rfl fun K hK => ?_
              refine Runs.mk ?_
              simp only [putAll]
              go_simp
              refine hK _ _ ?_ hS ((fun w => Below.refl _ w) W) _ rfl rfl
              first | rfl | go_simp | simp
            · -- 5: Op.binOp BinOp.gtr 3 (Operand.tmp 16) (Operand.const (Value.int IntKind.i64 0)) 3  [(3, 'false')]
              intro l hl vs W hS hR hp
              obtain rfl : l = [(0, 12), (1, 13), (2, 14), (3, 15), (4, 16)] := hl.symm.trans (by kernel_rfl)
              have p3 : vs 3 = _ := hp 3 (by decide) (by decide)
              have p4 : vs 4 = _ := hp 4 (by decide) (by decide)
              clear hp hl
              refine opgoal (_) (some 17) rfl rfl fun K hK => ?_
              refine Runs.mk ?_
              simp only [putAll]
              go_simp
              refine hK _ _ ?_ hS ((fun w => Below.refl _ w) W) _ rfl rfl
              first | rfl | go_simp | simp
            · -- 6: Op.move (Operand.tmp 17)  [(3, 'false')]
              intro l hl vs W hS hR hp
              obtain rfl : l = [(0, 12), (1, 13), (2, 14), (3, 15), (4, 16), (5, 17)] := hl.symm.trans (by kernel_rfl)
              have p3 : vs 3 = _ := hp 3 (by decide) (by decide)
              have p5 : vs 5 = _ := hp 5 (by decide) (by decide)
              clear hp hl
              refine opgoal (_) (some 18) rfl rfl fun K hK => ?_
              refine Runs.mk ?_
              simp only [putAll]
              go_simp
              refine hK _ _ ?_ hS ((fun w => Below.refl _ w) W) _ rfl rfl
              first | rfl | go_simp | simp
            · -- 7: Op.move (Operand.tmp 0)  [(6, 'true')]
              intro l hl vs W hS hR hp
              obtain rfl : l = [(0, 12), (1, 13), (2, 14), (3, 15), (4, 16), (5, 17), (6, 18)] := hl.symm.trans (by kernel_rfl)
              have p6 : vs 6 = _ := hp 6 (by decide) (by decide)
              clear hp hl
              refine opgoal (_) (some 19) rfl rfl fun K hK => ?_
              refine Runs.mk ?_
              simp only [putAll]
              go_simp
              refine hK _ _ ?_ hS ((fun w => Below.refl _ w) W) _ rfl rfl
              first | rfl | go_simp | simp
            · -- 8: Op.move (Operand.tmp 3)  [(6, 'true')]
              intro l hl vs W hS hR hp
              obtain rfl : l = [(0, 12), (1, 13), (2, 14), (3, 15), (4, 16), (5, 17), (6, 18)] := hl.symm.trans (by kernel_rfl)
              have p6 : vs 6 = _ := hp 6 (by decide) (by decide)
              clear hp hl
              refine opgoal (_) (some 20) rfl rfl fun K hK => ?_
              refine Runs.mk ?_
              simp only [putAll]
              go_simp
              refine hK _ _ ?_ hS ((fun w => Below.refl _ w) W) _ rfl rfl
              first | rfl | go_simp | simp
            · -- 9: Op.binOp BinOp.sub 3 (Operand.tmp 20) (Operand.const (Value.int IntKind.i64 1)) 3  [(6, 'true')]
              intro l hl vs W hS hR hp
              obtain rfl : l = [(0, 12), (1, 13), (2, 14), (3, 15), (4, 16), (5, 17), (6, 18), (8, 20)] := hl.symm.trans (by kernel_rfl)
              have p6 : vs 6 = _ := hp 6 (by decide) (by decide)
              have p8 : vs 8 = _ := hp 8 (by decide) (by decide)
              clear hp hl
              refine opgoal (_) (some 21) rfl rfl fun K hK => ?_
              refine Runs.mk ?_
              simp only [putAll]
              go_simp
              refine hK _ _ ?_ hS ((fun w => Below.refl _ w) W) _ rfl rfl
              first | rfl | go_simp | simp
            · -- 10: Op.indexAddr 54 (Operand.tmp 19) (Operand.tmp 21)  [(6, 'true')]
              intro l hl vs W hS hR hp
              obtain rfl : l = [(0, 12), (1, 13), (2, 14), (3, 15), (4, 16), (5, 17), (6, 18), (7, 19), (8, 20), (9, 21)] := hl.symm.trans (by kernel_rfl)
              have p6 : vs 6 = _ := hp 6 (by decide) (by decide)
              have p7 : vs 7 = _ := hp 7 (by decide) (by decide)
              have p9 : vs 9 = _ := hp 9 (by decide) (by decide)
              clear hp hl
              refine opgoal (_) (some 22) rfl rfl fun K hK => ?_
              refine Runs.mk ?_
              simp only [putAll]
              go_simp
              refine hK _ _ ?_ hS ((fun w => Below.refl _ w) W) _ rfl rfl
              first | rfl | go_simp | simp
            · -- 11: Op.fieldAddr 86 (Operand.tmp 22) 0  [(6, 'true')]
              intro l hl vs W hS hR hp
              obtain rfl : l = [(0, 12), (1, 13), (2, 14), (3, 15), (4, 16), (5, 17), (6, 18), (7, 19), (8, 20), (9, 21), (10, 22)] := hl.symm.trans (by kernel_rfl)
              have p6 : vs 6 = _ := hp 6 (by decide) (by decide)
              have p10 : vs 10 = _ := hp 10 (by decide) (by decide)
              clear hp hl
              refine opgoal (_) (some 23) rfl rfl fun K hK => ?_
              refine Runs.mk ?_
              simp only [putAll]
              go_simp
              refine hK _ _ ?_ hS ((fun w => Below.refl _ w) W) _ rfl rfl
              first | rfl | go_simp | simp
            · -- 12: Op.load 3 (Operand.tmp 23)  [(6, 'true')]
              intro l hl vs W hS hR hp
              obtain rfl : l = [(0, 12), (1, 13), (2, 14), (3, 15), (4, 16), (5, 17), (6, 18), (7, 19), (8, 20), (9, 21), (10, 22), (11, 23)] := hl.symm.trans (by kernel_rfl)
              have p6 : vs 6 = _ := hp 6 (by decide) (by decide)
              have p11 : vs 11 = _ := hp 11 (by decide) (by decide)
              clear hp hl
              refine opgoal (_) (some 24) rfl rfl fun K hK => ?_
              refine Runs.mk ?_
              simp only [putAll]
              go_simp
              refine hK _ _ ?_ hS ((fun w => Below.refl _ w) W) _ rfl rfl
              first | rfl | go_simp | simp
            · -- 13: Op.fieldAddr 86 (Operand.tmp 4) 0  [(6, 'true')]
              intro l hl vs W hS hR hp
              obtain rfl : l = [(0, 12), (1, 13), (2, 14), (3, 15), (4, 16), (5, 17), (6, 18)] := hl.symm.trans (by kernel_rfl)
              have p6 : vs 6 = _ := hp 6 (by decide) (by decide)
              clear hp hl
              refine opgoal (_) (some 25) rfl rfl fun K hK => ?_
              refine Runs.mk ?_
              simp only [putAll]
              go_simp
              refine hK _ _ ?_ hS ((fun w => Below.refl _ w) W) _ rfl rfl
              first | rfl | go_simp | simp
            · -- 14: Op.load 3 (Operand.tmp 25)  [(6, 'true')]
              intro l hl vs W hS hR hp
              obtain rfl : l = [(0, 12), (1, 13), (2, 14), (3, 15), (4, 16), (5, 17), (6, 18), (13, 25)] := hl.symm.trans (by kernel_rfl)
              have p6 : vs 6 = _ := hp 6 (by decide) (by decide)
              have p13 : vs 13 = _ := hp 13 (by decide) (by decide)
              clear hp hl
              refine opgoal (_) (some 26) rfl rfl fun K hK => ?_
              refine Runs.mk ?_
              simp only [putAll]
              go_simp
              refine hK _ _ ?_ hS ((fun w => Below.refl _ w) W) _ rfl rfl
              first | rfl | go_simp | simp
            · -- 15: Op.binOp BinOp.geq 3 (Operand.tmp 24) (Operand.tmp 26) 3  [(6, 'true')]
              intro l hl vs W hS hR hp
              obtain rfl : l = [(0, 12), (1, 13), (2, 14), (3, 15), (4, 16), (5, 17), (6, 18), (7, 19), (8, 20), (9, 21), (10, 22), (11, 23), (12, 24), (13, 25), (14, 26)] := hl.symm.trans (by kernel_rfl)
              have p6 : vs 6 = _ := hp 6 (by decide) (by decide)
              have p12 : vs 12 = _ := hp 12 (by decide) (by decide)
              have p14 : vs 14 = _ := hp 14 (by decide) (by decide)
              clear hp hl
              refine opgoal (_) (some 27) rfl rfl fun K hK => ?_
              refine Runs.mk ?_
              simp only [putAll]
              go_simp
              refine hK _ _ ?_ hS ((fun w => Below.refl _ w) W) _ rfl rfl
              first | rfl | go_simp | simp
            · -- 16: Op.pick (Operand.tmp 18) (Operand.tmp 27) (Operand.const (Value.bool false))  [(3, 'false')]
              intro l hl vs W hS hR hp
              obtain rfl : l = [(0, 12), (1, 13), (2, 14), (3, 15), (4, 16), (5, 17), (6, 18), (7, 19), (8, 20), (9, 21), (10, 22), (11, 23), (12, 24), (13, 25), (14, 26), (15, 27)] := hl.symm.trans (by kernel_rfl)
              have p3 : vs 3 = _ := hp 3 (by decide) (by decide)
              have p6 : vs 6 = _ := hp 6 (by decide) (by decide)
              have p15 : vs 15 = _ := hp 15 (by decide) (by decide)
              clear hp hl
              refine opgoal (_) (some 28) rfl rfl fun K hK => ?_
              refine Runs.mk ?_
              simp only [putAll]
              go_simp
              refine hK _ _ ?_ hS ((fun w => Below.refl _ w) W) _ rfl rfl
              first | rfl | go_simp | simp
            · -- 17: Op.pick (Operand.tmp 15) (Operand.const (Value.bool true)) (Operand.tmp 28)
              intro l hl vs W hS hR hp
              obtain rfl : l = [(0, 12), (1, 13), (2, 14), (3, 15), (4, 16), (5, 17), (6, 18), (7, 19), (8, 20), (9, 21), (10, 22), (11, 23), (12, 24), (13, 25), (14, 26), (15, 27), (16, 28)] := hl.symm.trans (by kernel_rfl)
              have p3 : vs 3 = _ := hp 3 (by decide) (by decide)
              have p16 : vs 16 = _ := hp 16 (by decide) (by decide)
              clear hp hl
              refine opgoal (_) (some 29) rfl rfl fun K hK => ?_
              refine Runs.mk ?_
              simp only [putAll]
              go_simp
              refine hK _ _ ?_ hS ((fun w => Below.refl _ w) W) _ rfl rfl
              first | rfl | go_simp | simp
          · intro l hl vs W hS hR hp
            obtain rfl : l = [(0, 12), (1, 13), (2, 14), (3, 15), (4, 16), (5, 17), (6, 18), (7, 19), (8, 20), (9, 21), (10, 22), (11, 23), (12, 24), (13, 25), (14, 26), (15, 27), (16, 28), (17, 29)] := hl.symm.trans (by kernel_rfl)
            have p0 : vs 0 = _ := hp 0 (by decide) (by decide)
            have p1 : vs 1 = _ := hp 1 (by decide) (by decide)
            have p2 : vs 2 = _ := hp 2 (by decide) (by decide)
            have p3 : vs 3 = _ := hp 3 (by decide) (by decide)
            have p4 : vs 4 = _ := hp 4 (by decide) (by decide)
            have p5 : vs 5 = _ := hp 5 (by decide) (by decide)
            have p6 : vs 6 = _ := hp 6 (by decide) (by decide)
            have p7 : vs 7 = _ := hp 7 (by decide) (by decide)
            have p8 : vs 8 = _ := hp 8 (by decide) (by decide)
            have p9 : vs 9 = _ := hp 9 (by decide) (by decide)
            have p10 : vs 10 = _ := hp 10 (by decide) (by decide)
            have p11 : vs 11 = _ := hp 11 (by decide) (by decide)
            have p12 : vs 12 = _ := hp 12 (by decide) (by decide)
            have p13 : vs 13 = _ := hp 13 (by decide) (by decide)
            have p14 : vs 14 = _ := hp 14 (by decide) (by decide)
            have p15 : vs 15 = _ := hp 15 (by decide) (by decide)
            have p16 : vs 16 = _ := hp 16 (by decide) (by decide)
            have p17 : vs 17 = _ := hp 17 (by decide) (by decide)
            clear hp hl
            simp only [putAll_mk, setAll, List.setIfInBounds_toArray, List.set_cons_succ, List.set_cons_zero, p0, p1, p2, p3, p4, p5, p6, p7, p8, p9, p10, p11, p12, p13, p14, p15, p16, p17]
            have HS := Lib.hid hS.1
            clear hS hR hS0
            go_wp2
            go_roundw
            case rel => exact ⟨1, by omega, rfl, HS.out, HST.out⟩
            case measure => simp [intOf]; omega
        | succ j =>
          have hjl : j < l.length := by omega
          obtain ⟨y, hy⟩ : ∃ y, Hid (l[j] = y) := ⟨_, Lib.hid rfl⟩
          obtain ⟨ab2, ao2, hAe2, d0, _⟩ := (H.out.below hb).at j (by omega) hjl y hy.out
          injection hAe2 with hAe2
          injection hAe2 with e1 e2 _
          subst e1; subst e2
          have hgy : Hid (l.getD j im0 = y) := Lib.hid (by rw [List.getD_eq_getElem?_getD, List.getElem?_eq_getElem hjl, hy.out]; rfl)
          obtain ⟨pc, pv, pl, pw, pn⟩ := y
          dsimp only at d0
          have HP := Lib.hid (cell_below hb1 d0)
          obtain ⟨z, HZ⟩ : ∃ z, Hid (decide (xc ≤ pc) = z) := ⟨_, Lib.hid rfl⟩
          have hat : Hid (okAt l (j + 1) = !z) := Lib.hid (by
            unfold okAt
            rw [hgx.out, hQ, show j + 1 - 1 = j from rfl, hgy.out, ← HZ.out]
            simp
            by_cases h : xc ≤ pc
            · simp [h]
            · simp [h]; omega)
          have HST : Hid (z = false → Hid (∀ i, i < j + 1 + 1 → okAt l i = true)) := Lib.hid (fun hz => Lib.hid (by
            intro i hi
            by_cases e : i = j + 1
            · subst e; rw [hat.out, hz]; rfl
            · exact hok.out i (by omega)))
          have HF : Hid (z = true → q = false) := Lib.hid (fun hz => by rw [← hq.out]; exact itemsR_no hkl (by rw [hat.out, hz]; rfl))
          obtain ⟨k, hkj⟩ : ∃ k, k = j + 1 := ⟨_, rfl⟩
          have hkj0 : 0 < k := by omega
          have hkj2 : (k : Int) - 1 = (j : Int) := by omega
          rw [← hkj] at c0 c1 c2 c3 c4 HST hlt hk ⊢
          have hjn : j < n := by omega
          have hwj : IntKind.i64.wrap (j : Int) = (j : Int) := IntWalk.i64_in (j : Int) (by omega)
          clear hQ hb1 hb d0 hkj
          go_wp2_with fail
          rw [hW1.out, hgb.out]
          refine wp_region_one (fun W => Below w.heap.size w W ∧ W.heap[gb]? = some (.cells #[.int .i64 xc, .int .i64 xv, .int .i64 xl, .bool xw, .int .i64 xn] 86 (0, 0))) (fun u v => Below u.heap.size u v) (fun a i => match i with
              | 0 => (fun v _ => v = .agg #[.int .i64 xc, .int .i64 xv, .int .i64 xl, .bool xw, .int .i64 xn])
              | 1 => (fun v _ => v = .bool true)
              | 2 => (fun v _ => v = .bool false)
              | 3 => (fun v _ => v = .bool false)
              | 4 => (fun v _ => v = .int .i64 (k : Nat))
              | 5 => (fun v _ => v = .bool true)
              | 6 => (fun v _ => v = .bool true)
              | 7 => (fun v _ => v = .slice (some ⟨ab, ao, none⟩) n ca)
              | 8 => (fun v _ => v = .int .i64 (k : Nat))
              | 9 => (fun v _ => v = .int .i64 (j : Nat))
              | 10 => (fun v _ => v = .pointer (some ⟨ab, ao + j * 5, none⟩))
              | 11 => (fun v _ => v = .pointer (some ⟨ab, ao + j * 5, none⟩))
              | 12 => (fun v _ => v = .int .i64 pc)
              | 13 => (fun v _ => v = .pointer (some ⟨gb, 0, none⟩))
              | 14 => (fun v _ => v = .int .i64 xc)
              | 15 => (fun v _ => v = .bool z)
              | 16 => (fun v _ => v = .bool z)
              | 17 => (fun v _ => v = .bool z)
              | _ => (fun _ _ => True)) #[0, 1, 3, 7, 15, 31, 63, 127, 127, 383, 1023, 2047, 4095, 127, 8319, 32767, 65535, 131071] #[0, 1, 2, 4, 8, 24, 40, 64, 64, 320, 704, 1088, 2112, 64, 8256, 20544, 32840, 65544] 262143 (by kernel_rfl) 18 rfl (fun m hm => by subst hm; kernel_rfl) (by kernel_rfl) (fun w => Below.refl _ w) (fun u v w h1 h2 => below2 h1 h2) ?_ (hS0) ?_ ?_
          · intro i hi
            rcases (by omega : i = 0 ∨ i = 1 ∨ i = 2 ∨ i = 3 ∨ i = 4 ∨ i = 5 ∨ i = 6 ∨ i = 7 ∨ i = 8 ∨ i = 9 ∨ i = 10 ∨ i = 11 ∨ i = 12 ∨ i = 13 ∨ i = 14 ∨ i = 15 ∨ i = 16 ∨ i = 17) with rfl | rfl | rfl | rfl | rfl | rfl | rfl | rfl | rfl | rfl | rfl | rfl | rfl | rfl | rfl | rfl | rfl | rfl
            · exact fun v w w' h hr => by exact h
            · exact fun v w w' h hr => by exact h
            · exact fun v w w' h hr => by exact h
            · exact fun v w w' h hr => by exact h
            · exact fun v w w' h hr => by exact h
            · exact fun v w w' h hr => by exact h
            · exact fun v w w' h hr => by exact h
            · exact fun v w w' h hr => by exact h
            · exact fun v w w' h hr => by exact h
            · exact fun v w w' h hr => by exact h
            · exact fun v w w' h hr => by exact h
            · exact fun v w w' h hr => by exact h
            · exact fun v w w' h hr => by exact h
            · exact fun v w w' h hr => by exact h
            · exact fun v w w' h hr => by exact h
            · exact fun v w w' h hr => by exact h
            · exact fun v w w' h hr => by exact h
            · exact fun v w w' h hr => by exact h
          · intro i hi
            rcases (by omega : i = 0 ∨ i = 1 ∨ i = 2 ∨ i = 3 ∨ i = 4 ∨ i = 5 ∨ i = 6 ∨ i = 7 ∨ i = 8 ∨ i = 9 ∨ i = 10 ∨ i = 11 ∨ i = 12 ∨ i = 13 ∨ i = 14 ∨ i = 15 ∨ i = 16 ∨ i = 17) with rfl | rfl | rfl | rfl | rfl | rfl | rfl | rfl | rfl | rfl | rfl | rfl | rfl | rfl | rfl | rfl | rfl | rfl
            · -- 0: Op.load 86 (Operand.tmp 4)
              intro l hl vs W hS hR hp
              obtain rfl : l = [] := hl.symm.trans (by kernel_rfl)
              clear hp hl
              refine opgoal (_) (some 12) rfl rfl fun K hK => ?_
              obtain ⟨f0, f1, f2, f3, f4⟩ := it_cells hS.2
              refine Runs.mk ?_
              simp only [putAll]
              go_simp
              refine hK _ _ ?_ hS ((fun w => Below.refl _ w) W) _ rfl rfl
              first | rfl | go_simp | simp
            · -- 1: Op.call { callee := Callee.value (Operand.func 92), args := #[Operand.tmp 12], argTypes := #[86] }
              intro l hl vs W hS hR hp
              obtain rfl : l = [(0, 12)] := hl.symm.trans (by kernel_rfl)
              have p0 : vs 0 = _ := hp 0 (by decide) (by decide)
              clear hp hl
              refine opgoal (_) (some 13) rfl rfl fun K hK => ?_
              refine Runs.mk ?_
              simp only [putAll]
              go_simp
              refine (right_any ⟨xc, xv, xl, xw, xn⟩ W true HQ.out).mono ?_
              rintro e w' ⟨rfl, hb⟩
              go_simp
              exact hK _ _ rfl ⟨below2 hS.1 hb, keep_block (.of_below (S := []) hb) hS.2 (by simp)⟩ hb _ rfl rfl
            · -- 2: Op.unOp UnOp.not 4 (Operand.tmp 13)
              intro l hl vs W hS hR hp
              obtain rfl : l = [(0, 12), (1, 13)] := hl.symm.trans (by kernel_rfl)
              have p1 : vs 1 = _ := hp 1 (by decide) (by decide)
              clear hp hl
              refine opgoal (_) (some 14) rfl rfl fun K hK => ?_
              refine Runs.mk ?_
              simp only [putAll]
              go_simp
              refine hK _ _ ?_ hS ((fun w => Below.refl _ w) W) _ rfl rfl
              first | rfl | go_simp | simp
            · -- 3: Op.move (Operand.tmp 14)
              intro l hl vs W hS hR hp
              obtain rfl : l = [(0, 12), (1, 13), (2, 14)] := hl.symm.trans (by kernel_rfl)
              have p2 : vs 2 = _ := hp 2 (by decide) (by decide)
              clear hp hl
              refine opgoal (_) (some 15) rfl rfl fun K hK => ?_
              refine Runs.mk ?_
              simp only [putAll]
              go_simp
              refine hK _ _ ?_ hS ((fun w => Below.refl _ w) W) _ rfl rfl
              first | rfl | go_simp | simp
            · -- 4: Op.move (Operand.tmp 3)  [(3, 'false')]
              intro l hl vs W hS hR hp
              obtain rfl : l = [(0, 12), (1, 13), (2, 14), (3, 15)] := hl.symm.trans (by kernel_rfl)
              have p3 : vs 3 = _ := hp 3 (by decide) (by decide)
              clear hp hl
              refine opgoal (_) (some 16) rfl rfl fun K hK => ?_
              refine Runs.mk ?_
              simp only [putAll]
              go_simp
              refine hK _ _ ?_ hS ((fun w => Below.refl _ w) W) _ rfl rfl
              first | rfl | go_simp | simp
            · -- 5: Op.binOp BinOp.gtr 3 (Operand.tmp 16) (Operand.const (Value.int IntKind.i64 0)) 3  [(3, 'false')]
              intro l hl vs W hS hR hp
              obtain rfl : l = [(0, 12), (1, 13), (2, 14), (3, 15), (4, 16)] := hl.symm.trans (by kernel_rfl)
              have p3 : vs 3 = _ := hp 3 (by decide) (by decide)
              have p4 : vs 4 = _ := hp 4 (by decide) (by decide)
              clear hp hl
              refine opgoal (_) (some 17) rfl rfl fun K hK => ?_
              refine Runs.mk ?_
              simp only [putAll]
              go_simp
              refine hK _ _ ?_ hS ((fun w => Below.refl _ w) W) _ rfl rfl
              first | rfl | go_simp | simp
            · -- 6: Op.move (Operand.tmp 17)  [(3, 'false')]
              intro l hl vs W hS hR hp
              obtain rfl : l = [(0, 12), (1, 13), (2, 14), (3, 15), (4, 16), (5, 17)] := hl.symm.trans (by kernel_rfl)
              have p3 : vs 3 = _ := hp 3 (by decide) (by decide)
              have p5 : vs 5 = _ := hp 5 (by decide) (by decide)
              clear hp hl
              refine opgoal (_) (some 18) rfl rfl fun K hK => ?_
              refine Runs.mk ?_
              simp only [putAll]
              go_simp
              refine hK _ _ ?_ hS ((fun w => Below.refl _ w) W) _ rfl rfl
              first | rfl | go_simp | simp
            · -- 7: Op.move (Operand.tmp 0)  [(6, 'true')]
              intro l hl vs W hS hR hp
              obtain rfl : l = [(0, 12), (1, 13), (2, 14), (3, 15), (4, 16), (5, 17), (6, 18)] := hl.symm.trans (by kernel_rfl)
              have p6 : vs 6 = _ := hp 6 (by decide) (by decide)
              clear hp hl
              refine opgoal (_) (some 19) rfl rfl fun K hK => ?_
              refine Runs.mk ?_
              simp only [putAll]
              go_simp
              refine hK _ _ ?_ hS ((fun w => Below.refl _ w) W) _ rfl rfl
              first | rfl | go_simp | simp
            · -- 8: Op.move (Operand.tmp 3)  [(6, 'true')]
              intro l hl vs W hS hR hp
              obtain rfl : l = [(0, 12), (1, 13), (2, 14), (3, 15), (4, 16), (5, 17), (6, 18)] := hl.symm.trans (by kernel_rfl)
              have p6 : vs 6 = _ := hp 6 (by decide) (by decide)
              clear hp hl
              refine opgoal (_) (some 20) rfl rfl fun K hK => ?_
              refine Runs.mk ?_
              simp only [putAll]
              go_simp
              refine hK _ _ ?_ hS ((fun w => Below.refl _ w) W) _ rfl rfl
              first | rfl | go_simp | simp
            · -- 9: Op.binOp BinOp.sub 3 (Operand.tmp 20) (Operand.const (Value.int IntKind.i64 1)) 3  [(6, 'true')]
              intro l hl vs W hS hR hp
              obtain rfl : l = [(0, 12), (1, 13), (2, 14), (3, 15), (4, 16), (5, 17), (6, 18), (8, 20)] := hl.symm.trans (by kernel_rfl)
              have p6 : vs 6 = _ := hp 6 (by decide) (by decide)
              have p8 : vs 8 = _ := hp 8 (by decide) (by decide)
              clear hp hl
              refine opgoal (_) (some 21) rfl rfl fun K hK => ?_
              refine Runs.mk ?_
              simp only [putAll]
              go_simp
              refine hK _ _ ?_ hS ((fun w => Below.refl _ w) W) _ rfl rfl
              first | rfl | go_simp | simp
            · -- 10: Op.indexAddr 54 (Operand.tmp 19) (Operand.tmp 21)  [(6, 'true')]
              intro l hl vs W hS hR hp
              obtain rfl : l = [(0, 12), (1, 13), (2, 14), (3, 15), (4, 16), (5, 17), (6, 18), (7, 19), (8, 20), (9, 21)] := hl.symm.trans (by kernel_rfl)
              have p6 : vs 6 = _ := hp 6 (by decide) (by decide)
              have p7 : vs 7 = _ := hp 7 (by decide) (by decide)
              have p9 : vs 9 = _ := hp 9 (by decide) (by decide)
              clear hp hl
              refine opgoal (_) (some 22) rfl rfl fun K hK => ?_
              refine Runs.mk ?_
              simp only [putAll]
              go_simp
              refine hK _ _ ?_ hS ((fun w => Below.refl _ w) W) _ rfl rfl
              first | rfl | go_simp | simp
            · -- 11: Op.fieldAddr 86 (Operand.tmp 22) 0  [(6, 'true')]
              intro l hl vs W hS hR hp
              obtain rfl : l = [(0, 12), (1, 13), (2, 14), (3, 15), (4, 16), (5, 17), (6, 18), (7, 19), (8, 20), (9, 21), (10, 22)] := hl.symm.trans (by kernel_rfl)
              have p6 : vs 6 = _ := hp 6 (by decide) (by decide)
              have p10 : vs 10 = _ := hp 10 (by decide) (by decide)
              clear hp hl
              refine opgoal (_) (some 23) rfl rfl fun K hK => ?_
              refine Runs.mk ?_
              simp only [putAll]
              go_simp
              refine hK _ _ ?_ hS ((fun w => Below.refl _ w) W) _ rfl rfl
              first | rfl | go_simp | simp
            · -- 12: Op.load 3 (Operand.tmp 23)  [(6, 'true')]
              intro l hl vs W hS hR hp
              obtain rfl : l = [(0, 12), (1, 13), (2, 14), (3, 15), (4, 16), (5, 17), (6, 18), (7, 19), (8, 20), (9, 21), (10, 22), (11, 23)] := hl.symm.trans (by kernel_rfl)
              have p6 : vs 6 = _ := hp 6 (by decide) (by decide)
              have p11 : vs 11 = _ := hp 11 (by decide) (by decide)
              clear hp hl
              refine opgoal (_) (some 24) rfl rfl fun K hK => ?_
              have fp := cell_below (below_of_drew hR) HP.out
              refine Runs.mk ?_
              simp only [putAll]
              go_simp
              refine hK _ _ ?_ hS ((fun w => Below.refl _ w) W) _ rfl rfl
              first | rfl | go_simp | simp
            · -- 13: Op.fieldAddr 86 (Operand.tmp 4) 0  [(6, 'true')]
              intro l hl vs W hS hR hp
              obtain rfl : l = [(0, 12), (1, 13), (2, 14), (3, 15), (4, 16), (5, 17), (6, 18)] := hl.symm.trans (by kernel_rfl)
              have p6 : vs 6 = _ := hp 6 (by decide) (by decide)
              clear hp hl
              refine opgoal (_) (some 25) rfl rfl fun K hK => ?_
              refine Runs.mk ?_
              simp only [putAll]
              go_simp
              refine hK _ _ ?_ hS ((fun w => Below.refl _ w) W) _ rfl rfl
              first | rfl | go_simp | simp
            · -- 14: Op.load 3 (Operand.tmp 25)  [(6, 'true')]
              intro l hl vs W hS hR hp
              obtain rfl : l = [(0, 12), (1, 13), (2, 14), (3, 15), (4, 16), (5, 17), (6, 18), (13, 25)] := hl.symm.trans (by kernel_rfl)
              have p6 : vs 6 = _ := hp 6 (by decide) (by decide)
              have p13 : vs 13 = _ := hp 13 (by decide) (by decide)
              clear hp hl
              refine opgoal (_) (some 26) rfl rfl fun K hK => ?_
              obtain ⟨f0, f1, f2, f3, f4⟩ := it_cells hS.2
              refine Runs.mk ?_
              simp only [putAll]
              go_simp
              refine hK _ _ ?_ hS ((fun w => Below.refl _ w) W) _ rfl rfl
              first | rfl | go_simp | simp
            · -- 15: Op.binOp BinOp.geq 3 (Operand.tmp 24) (Operand.tmp 26) 3  [(6, 'true')]
              intro l hl vs W hS hR hp
              obtain rfl : l = [(0, 12), (1, 13), (2, 14), (3, 15), (4, 16), (5, 17), (6, 18), (7, 19), (8, 20), (9, 21), (10, 22), (11, 23), (12, 24), (13, 25), (14, 26)] := hl.symm.trans (by kernel_rfl)
              have p6 : vs 6 = _ := hp 6 (by decide) (by decide)
              have p12 : vs 12 = _ := hp 12 (by decide) (by decide)
              have p14 : vs 14 = _ := hp 14 (by decide) (by decide)
              clear hp hl
              refine opgoal (_) (some 27) rfl rfl fun K hK => ?_
              have hz1 := HZ.out
              refine Runs.mk ?_
              simp only [putAll]
              go_simp
              refine hK _ _ ?_ hS ((fun w => Below.refl _ w) W) _ rfl rfl
              first | rfl | go_simp | simp
            · -- 16: Op.pick (Operand.tmp 18) (Operand.tmp 27) (Operand.const (Value.bool false))  [(3, 'false')]
              intro l hl vs W hS hR hp
              obtain rfl : l = [(0, 12), (1, 13), (2, 14), (3, 15), (4, 16), (5, 17), (6, 18), (7, 19), (8, 20), (9, 21), (10, 22), (11, 23), (12, 24), (13, 25), (14, 26), (15, 27)] := hl.symm.trans (by kernel_rfl)
              have p3 : vs 3 = _ := hp 3 (by decide) (by decide)
              have p6 : vs 6 = _ := hp 6 (by decide) (by decide)
              have p15 : vs 15 = _ := hp 15 (by decide) (by decide)
              clear hp hl
              refine opgoal (_) (some 28) rfl rfl fun K hK => ?_
              refine Runs.mk ?_
              simp only [putAll]
              go_simp
              refine hK _ _ ?_ hS ((fun w => Below.refl _ w) W) _ rfl rfl
              first | rfl | go_simp | simp
            · -- 17: Op.pick (Operand.tmp 15) (Operand.const (Value.bool true)) (Operand.tmp 28)
              intro l hl vs W hS hR hp
              obtain rfl : l = [(0, 12), (1, 13), (2, 14), (3, 15), (4, 16), (5, 17), (6, 18), (7, 19), (8, 20), (9, 21), (10, 22), (11, 23), (12, 24), (13, 25), (14, 26), (15, 27), (16, 28)] := hl.symm.trans (by kernel_rfl)
              have p3 : vs 3 = _ := hp 3 (by decide) (by decide)
              have p16 : vs 16 = _ := hp 16 (by decide) (by decide)
              clear hp hl
              refine opgoal (_) (some 29) rfl rfl fun K hK => ?_
              refine Runs.mk ?_
              simp only [putAll]
              go_simp
              refine hK _ _ ?_ hS ((fun w => Below.refl _ w) W) _ rfl rfl
              first | rfl | go_simp | simp
          · intro l hl vs W hS hR hp
            obtain rfl : l = [(0, 12), (1, 13), (2, 14), (3, 15), (4, 16), (5, 17), (6, 18), (7, 19), (8, 20), (9, 21), (10, 22), (11, 23), (12, 24), (13, 25), (14, 26), (15, 27), (16, 28), (17, 29)] := hl.symm.trans (by kernel_rfl)
            have p0 : vs 0 = _ := hp 0 (by decide) (by decide)
            have p1 : vs 1 = _ := hp 1 (by decide) (by decide)
            have p2 : vs 2 = _ := hp 2 (by decide) (by decide)
            have p3 : vs 3 = _ := hp 3 (by decide) (by decide)
            have p4 : vs 4 = _ := hp 4 (by decide) (by decide)
            have p5 : vs 5 = _ := hp 5 (by decide) (by decide)
            have p6 : vs 6 = _ := hp 6 (by decide) (by decide)
            have p7 : vs 7 = _ := hp 7 (by decide) (by decide)
            have p8 : vs 8 = _ := hp 8 (by decide) (by decide)
            have p9 : vs 9 = _ := hp 9 (by decide) (by decide)
            have p10 : vs 10 = _ := hp 10 (by decide) (by decide)
            have p11 : vs 11 = _ := hp 11 (by decide) (by decide)
            have p12 : vs 12 = _ := hp 12 (by decide) (by decide)
            have p13 : vs 13 = _ := hp 13 (by decide) (by decide)
            have p14 : vs 14 = _ := hp 14 (by decide) (by decide)
            have p15 : vs 15 = _ := hp 15 (by decide) (by decide)
            have p16 : vs 16 = _ := hp 16 (by decide) (by decide)
            have p17 : vs 17 = _ := hp 17 (by decide) (by decide)
            clear hp hl
            simp only [putAll_mk, setAll, List.setIfInBounds_toArray, List.set_cons_succ, List.set_cons_zero, p0, p1, p2, p3, p4, p5, p6, p7, p8, p9, p10, p11, p12, p13, p14, p15, p16, p17]
            have HS := Lib.hid hS.1
            clear hS hR hS0
            cases z
            case false =>
              go_wp2
              go_roundw
              case rel => exact ⟨k + 1, by omega, by go_num, HS.out, (HST.out (by first | rfl | trivial))⟩
              case measure => simp [intOf]; omega
            case true =>
              go_wp2
              go_ret
              exact ⟨retbf (HF.out (by first | rfl | trivial)), HS.out⟩
    · have e : Hid (q = decide (0 < n)) := Lib.hid (by rw [← hq.out, itemsR_end (fun j hj => hok.out j (by have := HN.out; omega)), HN.out])
      by_cases h0 : 0 < n
      · have e1 : Hid (q = true) := Lib.hid (by rw [e.out]; simpa using h0)
        have h0' : (0 : Int) < (n : Int) := by omega
        go_wp2
        go_ret
        exact ⟨retb e1.out, hb⟩
      · have e1 : Hid (q = false) := Lib.hid (by rw [e.out]; simpa using h0)
        have h0' : ¬ (0 : Int) < (n : Int) := by omega
        go_wp2
        go_ret
        exact ⟨retbf e1.out, hb⟩
end Go.Proofs.Ytfpocddpnoighaa.It

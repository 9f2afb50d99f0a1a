/- WireReads: the walk. -/
import Derived.Test.YtfpocddpnoighaaWrO
namespace Go.Proofs.Ytfpocddpnoighaa.Wr
open Go.RowKit Go.Proofs.Ytfpocddpnoighaa.L Go.Proofs.Ytfpocddpnoighaa.O Go.Proofs.Ytfpocddpnoighaa.A Go.Proofs.Ytfpocddpnoighaa.S Go.Proofs.Ytfpocddpnoighaa.T Go.Proofs.Ytfpocddpnoighaa.E
set_option linter.unusedVariables false
set_option linter.unusedSimpArgs false

/-- a reader and a writer, of the call's own; and blocks of other things. -/
structure RW (w0 W : World) (pr : List (Nat × Obj)) (b bw : Nat) (s : ByteArray) (q : Bool) (bs : List UInt8) (bad : Bool) : Prop where
  low : Below w0.heap.size w0 W
  rd : Rdr W b s q
  ge : w0.heap.size ≤ b
  out : ∃ r, Wr W bw r bs bad ∧ (∀ k ∈ blks bw r, w0.heap.size ≤ k ∧ k ≠ b) ∧ ∀ p ∈ pr, W.heap[p.1]? = some p.2 ∧ p.1 ≠ b ∧ p.1 ∉ blks bw r
theorem RW.below {w0 W W' : World} {pr : List (Nat × Obj)} {b bw : Nat} {s : ByteArray} {q : Bool} {bs : List UInt8} {bad : Bool} (h : RW w0 W pr b bw s q bs bad) (hb : Below W.heap.size W W') : RW w0 W' pr b bw s q bs bad := by
  obtain ⟨r, h1, h2, h3⟩ := h.out
  exact ⟨below2 h.low hb, h.rd.below hb, h.ge, r, h1.below hb, h2, fun p hp => ⟨keep_block (.of_below (S := []) hb) (h3 p hp).1 (by simp), (h3 p hp).2⟩⟩
theorem RW.lay {w0 W : World} {pr : List (Nat × Obj)} {b bw : Nat} {s : ByteArray} {q : Bool} {bs : List UInt8} {bad : Bool} (h : RW w0 W pr b bw s q bs bad) (o : Obj) : RW w0 (W.alloc o) ((W.heap.size, o) :: pr) b bw s q bs bad := by
  have hb := below_alloc W o
  obtain ⟨r, h1, h2, h3⟩ := h.out
  refine ⟨below2 h.low hb, h.rd.below hb, h.ge, r, h1.below hb, h2, fun p hp => ?_⟩
  rcases List.mem_cons.1 hp with rfl | hp
  · exact ⟨heap_alloc_new _ _, fun e => Nat.lt_irrefl _ (by have := h.rd.lt; rw [← e] at this; exact this), fun hk => Nat.lt_irrefl _ (h1.lts _ hk)⟩
  · exact ⟨keep_block (.of_below (S := []) hb) (h3 p hp).1 (by simp), (h3 p hp).2⟩
theorem RW.drop {w0 W : World} {pr : List (Nat × Obj)} {b bw : Nat} {s : ByteArray} {q : Bool} {bs : List UInt8} {bad : Bool} (h : RW w0 W pr b bw s q bs bad) : RW w0 W [] b bw s q bs bad := by
  obtain ⟨r, h1, h2, h3⟩ := h.out
  exact ⟨h.low, h.rd, h.ge, r, h1, h2, by simp⟩
theorem RW.got {w0 W : World} {pr : List (Nat × Obj)} {b bw : Nat} {s : ByteArray} {q : Bool} {bs : List UInt8} {bad : Bool} (h : RW w0 W pr b bw s q bs bad) {g : Nat} {o : Obj} (hm : (g, o) ∈ pr) : W.heap[g]? = some o := by
  obtain ⟨r, h1, h2, h3⟩ := h.out
  exact (h3 _ hm).1
theorem RW.read {w0 W : World} {pr : List (Nat × Obj)} {b bw : Nat} {s s' : ByteArray} {q q' : Bool} {bs : List UInt8} {bad : Bool} {fn : FuncId} {args : Array Value} {E : Ending → Prop} (h : RW w0 W pr b bw s q bs bad)
    (c : Rdr W b s q → Calls Try.prog fn args W fun e w' => E e ∧ Rds W b s' q' w') : Calls Try.prog fn args W fun e w' => E e ∧ RW w0 w' pr b bw s' q' bs bad := by
  obtain ⟨r, h1, h2, h3⟩ := h.out
  refine (c h.rd).mono fun e w' ⟨he, hr, hk⟩ => ⟨he, h.low.trans (hk.below h.low.size (by simpa using h.ge)), hr, h.ge, r, h1.other hk (fun k hk1 hk2 => (h2 k hk1).2 (by simpa using hk2)), h2, fun p hp => ⟨keep_block hk (h3 p hp).1 (by simpa using (h3 p hp).2.1), (h3 p hp).2⟩⟩
theorem RW.write {w0 W : World} {pr : List (Nat × Obj)} {b bw : Nat} {s : ByteArray} {q : Bool} {bs bs' : List UInt8} {bad bad' : Bool} {fn : FuncId} {args : Array Value} {E : Ending → Prop} (h : RW w0 W pr b bw s q bs bad)
    (c : ∀ r, Wr W bw r bs bad → Calls Try.prog fn args W fun e w' => E e ∧ Wrs W bw (blks bw r) bs' bad' w') : Calls Try.prog fn args W fun e w' => E e ∧ RW w0 w' pr b bw s q bs' bad' := by
  obtain ⟨r, h1, h2, h3⟩ := h.out
  refine (c r h1).mono fun e w' ⟨he, hw⟩ => ⟨he, ?_⟩
  obtain ⟨r2, k1, k2⟩ := hw.out
  have hbl := h.rd.lt
  refine ⟨h.low.trans (hw.keep.below h.low.size fun x hx => (h2 x hx).1), h.rd.keep hw.keep (fun hm => (h2 b hm).2 rfl), h.ge, r2, k1, fun k hk => ?_, fun p hp => ?_⟩
  · rcases mem_blks.1 hk with rfl | hk
    · exact h2 k (mem_blks.2 (.inl rfl))
    · rcases k2 k hk with h4 | h4
      · exact h2 k h4
      · have := h.low.size; omega
  · obtain ⟨p1, p2, p3⟩ := h3 p hp
    refine ⟨keep_block hw.keep p1 p3, p2, fun hk => ?_⟩
    have hlt := (Array.getElem?_eq_some_iff.1 p1).1
    rcases mem_blks.1 hk with e | hk
    · exact p3 (mem_blks.2 (.inl e))
    · rcases k2 _ hk with h4 | h4
      · exact p3 h4
      · omega
theorem rw_new (w : World) (s : ByteArray) : RW w ((w.alloc (.cells #[.string s, .bool false] 128)).alloc (.cells #[.pointer none, .slice none 0 0, .bool false] 30)) [] w.heap.size (w.heap.size + 1) s false [] false := by
  have h1 := rdr_new w s
  have h2 := wr_new (w.alloc (.cells #[.string s, .bool false] 128)) 30 (.inl rfl)
  simp only [World.size_alloc] at h2
  refine ⟨below2 (below_alloc _ _) (below_alloc _ _), h1.below (below_alloc _ _), Nat.le_refl _, none, h2, fun k hk => ?_, by simp⟩
  rw [mem_blks] at hk
  simp at hk
  omega
/-- a thing's cells. -/
theorem th_cells {W : World} {g : Nat} {k n : Int} {t : ByteArray} {T : TypeId} (h : W.heap[g]? = some (.cells #[.int .i64 k, .int .i64 n, .string t] T (0, 0))) : W.cell? ⟨g, 0, none⟩ = some (.int .i64 k) ∧ W.cell? ⟨g, 1, none⟩ = some (.int .i64 n) ∧ W.cell? ⟨g, 2, none⟩ = some (.string t) :=
  ⟨by rw [cell_of_row _ _ _ _ _ _ h]; rfl, by rw [cell_of_row _ _ _ _ _ _ h]; rfl, by rw [cell_of_row _ _ _ _ _ _ h]; rfl⟩
theorem isEmpty_size (s : ByteArray) : (0 < s.size → s.toList.isEmpty = false) ∧ (¬ 0 < s.size → s.toList.isEmpty = true) := by
  rw [ByteArray.toList_eq, Lib.size_eq]
  cases s.data.toList <;> simp
theorem takeS_le (n : Nat) (s : ByteArray) (q : Bool) : (takeS n s q).size ≤ s.size := by
  unfold takeS
  split
  · exact Nat.le_refl _
  · rw [ByteArray.size_extract]; omega
theorem read_size (k : Nat) (s : ByteArray) (q : Bool) : (readR k s q).s.size ≤ s.size := by
  unfold readR
  split
  · exact takeS_le _ _ _
  · exact takeS_le _ _ _
  · exact takeS_le _ _ _
  · exact takeS_le _ _ _
  · exact Nat.le_trans (takeS_le _ _ _) (takeS_le _ _ _)
theorem get_ref (k : Nat) (hk : k ≤ 4) (s : ByteArray) (hs : s.size ≤ 140737488351232) (w : World) (V : Value) (hV : refV k s = V) : Calls Try.prog 30 #[.int .i64 k, .string s] w fun e w' => e = .returned V ∧ Below w.heap.size w w' := by
  subst hV
  rcases (by omega : k = 0 ∨ k = 1 ∨ k = 2 ∨ k = 3 ∨ k = 4) with rfl | rfl | rfl | rfl | rfl
  · exact get_ref0 s hs w
  · exact get_ref1 s hs w
  · exact get_ref2 s hs w
  · exact get_ref3 s hs w
  · exact get_ref4 s hs w
set_option maxHeartbeats 8000000 in
set_option maxRecDepth 100000 in
theorem reads_walk (w : World) (s : ByteArray) (hs : s.size ≤ 140737488351232) (A : Option Addr) (n c : Nat) (l : List Nat) (hr : Rd w A n (l.map fun x : Nat => Value.int .u8 (x : Int))) (hl : ∀ x ∈ l, x < 256) :
    Calls Try.prog 7 #[.string s, .slice A n c] w fun e w' => e = .returned (.bool true) ∧ Below w.heap.size w w' := by
  have hn9 := hr.2.1
  have HR := Lib.hid hr
  have HL := Lib.hid hl
  have HN : Hid (l.length = n) := Lib.hid (by simpa using hr.len)
  clear hr hl
  by_cases hbig : 100000 < s.size
  · have hbig' : (100000 : Int) < (s.size : Nat) := by omega
    go_enter Try.func7, Try.ntmps7
    go_wp2_with fail
    refine (awake_any w).mono ?_
    rintro e w1 ⟨rfl, hb1⟩
    go_wp2
    go_ret
    exact ⟨rfl, hb1⟩
  have hd1 : decide ((100000 : Int) < (s.size : Nat)) = false := by simp; omega
  by_cases hnb : 100 < n
  · have hnb' : (100 : Int) < (n : Int) := by omega
    go_enter Try.func7, Try.ntmps7
    go_wp2_with fail
    refine (awake_any w).mono ?_
    rintro e w1 ⟨rfl, hb1⟩
    go_wp2
    go_ret
    exact ⟨rfl, hb1⟩
  have hd2 : decide ((100 : Int) < (n : Int)) = false := by simp; omega
  go_enter Try.func7, Try.ntmps7
  go_wp2_with fail
  refine (awake_any w).mono ?_
  rintro e w1 ⟨rfl, hb1⟩
  have HR1 := Lib.hid (HR.out.below hb1)
  have HB1 := Lib.hid hb1
  clear hb1 HR
  go_wp2_with fail
  refine (newreader_any s w1).mono ?_
  rintro e w2 ⟨rfl, hw2⟩
  have hRW := rw_new w1 s
  rw [hw2] at hRW
  obtain ⟨b, hb⟩ : ∃ b, Hid (w1.heap.size = b) := ⟨_, Lib.hid rfl⟩
  obtain ⟨bw, hbw⟩ : ∃ bw, Hid (w2.heap.size = bw) := ⟨_, Lib.hid rfl⟩
  have hbw1 : w1.heap.size + 1 = bw := by rw [← hbw.out, ← hw2]; simp
  obtain ⟨W0, hW0⟩ : ∃ W0, Hid (w2.alloc (.cells #[.pointer none, .slice none 0 0, .bool false] 30) = W0) := ⟨_, Lib.hid rfl⟩
  rw [hW0.out, hbw1, hb.out] at hRW
  have HRW := Lib.hid hRW
  clear hRW hw2 hbw1
  rw [hb.out]
  go_wp2_with fail
  rw [hW0.out, hbw.out]
  clear hd1 hd2
  have hm := th_guard
  go_loopw [7, 8, 30] (fun lf br i wr => ∃ (k c : Nat) (q : Bool) (s0 : ByteArray) (bs : List UInt8), k ≤ n ∧ i = .int .i64 k ∧ lf = .string (s.extract c s.size) ∧ br = .bool q ∧ c ≤ s.size ∧ s0.size ≤ s.size ∧ RW w1 wr [] b bw s0 q bs false ∧ Hid (q = false → s0 = s.extract c s.size ∧ bs = s.data.toList.take c)) (fun _ _ i _ => n - (intOf i).toNat)
  case atStart =>
    have e0 : s.extract 0 s.size = s := by apply ByteArray.ext; simp
    exact ⟨0, 0, false, s, [], by omega, rfl, by rw [e0], rfl, by omega, by omega, HRW.out, Lib.hid fun _ => ⟨by rw [e0], rfl⟩⟩
  case round =>
    obtain ⟨k, c1, q, s0, bs, hk, rfl, rfl, rfl, hc1, hs0, hRW, hq⟩ := hrel
    obtain ⟨L, hL⟩ : ∃ L, Hid (s.extract c1 s.size = L) := ⟨_, Lib.hid rfl⟩
    rw [hL.out] at hq ⊢
    by_cases hlt : k < n
    · obtain ⟨ab, ao, hAe, hc⟩ := (HR1.out.below hRW.low).2.2 (by omega)
      subst hAe
      have hkl : k < l.length := by have := HN.out; omega
      obtain ⟨x, hx⟩ : ∃ x, Hid (x = l[k]) := ⟨_, Lib.hid rfl⟩
      have hx256 : x < 256 := by rw [hx.out]; exact HL.out _ (List.getElem_mem _)
      have d0 := hc k hlt
      rw [List.getElem?_map, List.getElem?_eq_getElem hkl, ← hx.out] at d0
      simp only [Option.map_some] at d0
      obtain ⟨r, hrr⟩ : ∃ r : Nat, Hid (x % 5 = r) := ⟨_, Lib.hid rfl⟩
      have hr4 : Hid (r ≤ 4) := Lib.hid (by rw [← hrr.out]; omega)
      have hri : (x : Int) % 5 = (r : Int) := by rw [← hrr.out]; omega
      clear hc
      cases q
      case true =>
        have HG := Lib.hid (hRW.read (fun hrd => get_broken r hr4.out b s0 (by omega) wr hrd))
        have heq := th_refl r 0 ⟨#[]⟩
        clear hRW
        go_wp2_with fail
        refine HG.out.mono ?_
        rintro e W1 ⟨rfl, h1⟩
        have H1 := Lib.hid (h1.lay (.cells #[.int .i64 r, .int .i64 0, .string ⟨#[]⟩] 32))
        clear h1 HG
        obtain ⟨W2, hW2⟩ : ∃ W2, Hid (W1.alloc (.cells #[.int .i64 r, .int .i64 0, .string ⟨#[]⟩] 32) = W2) := ⟨_, Lib.hid rfl⟩
        rw [hW2.out] at H1
        go_wp2_with fail
        rw [hW2.out]
        refine (left_any b s0 true W2 H1.out.rd 0 rfl).mono ?_
        rintro e W3 ⟨rfl, rfl⟩
        rw [← hL.out]
        go_wp2
        go_roundw
        case rel => exact ⟨k + 1, c1, true, s0, bs, by omega, by go_num, rfl, rfl, hc1, hs0, H1.out.drop, Lib.hid fun h => absurd h (by decide)⟩
        case measure => simp [intOf]; omega
      case false =>
        obtain ⟨eL, hbs⟩ := hq.out rfl
        obtain rfl : s0 = L := eL
        have HBS := Lib.hid hbs
        have hcL : Hid (c1 + s0.size = s.size) := Lib.hid (by rw [← hL.out, ByteArray.size_extract]; omega)
        obtain ⟨o, ho⟩ : ∃ o, Hid (readR r s0 false = o) := ⟨_, Lib.hid rfl⟩
        have HG := Lib.hid (hRW.read (fun hrd => get_read r hr4.out b s0 false (by omega) wr hrd o ho.out))
        have hs0' := Lib.hid hs0
        have hos := read_size r s0 false
        rw [ho.out] at hos
        obtain ⟨on, ot, os, oq⟩ := o
        dsimp only at HG hos
        have hosz : Hid (os.size ≤ s.size) := Lib.hid (Nat.le_trans hos hs0)
        clear hos
        clear hRW hq hbs
        go_wp2_with fail
        refine HG.out.mono ?_
        rintro e W1 ⟨rfl, h1⟩
        obtain ⟨g1, hg1⟩ : ∃ g, Hid (W1.heap.size = g) := ⟨_, Lib.hid rfl⟩
        have H1 := Lib.hid (h1.lay (.cells #[.int .i64 r, .int .i64 on, .string ot] 32))
        clear h1 HG
        obtain ⟨W2, hW2⟩ : ∃ W2, Hid (W1.alloc (.cells #[.int .i64 r, .int .i64 on, .string ot] 32) = W2) := ⟨_, Lib.hid rfl⟩
        rw [hW2.out, hg1.out] at H1
        cases hG : refG r s0 with
        | none =>
          have hoq : Hid (oq = true) := Lib.hid (by have := read_none r hr4.out s0 hG; rw [ho.out] at this; exact this)
          have HC := Lib.hid (get_ref r hr4.out s0 (by have := hs0'.out; omega) W2 _ (by unfold refV; rw [hG]))
          clear hG ho
          go_wp2_with fail
          rw [hW2.out, hg1.out]
          refine HC.out.mono ?_
          rintro e W3 ⟨rfl, hb3⟩
          have H3 := Lib.hid (H1.out.below hb3)
          obtain ⟨W4, hW4⟩ : ∃ W4, Hid (W3.alloc (.cells #[.int .i64 0, .int .i64 0, .string ⟨#[]⟩] 32) = W4) := ⟨_, Lib.hid rfl⟩
          have H4 := Lib.hid (H3.out.below (below_alloc W3 (.cells #[.int .i64 0, .int .i64 0, .string ⟨#[]⟩] 32)))
          rw [hW4.out, hoq.out] at H4
          clear hb3 HC
          go_wp2_with fail
          rw [hW4.out]
          refine (left_any b os true W4 H4.out.rd 0 rfl).mono ?_
          rintro e W5 ⟨rfl, rfl⟩
          go_wp2_with fail
          refine (end_any b os true W4 H4.out.rd 2 rfl).mono ?_
          rintro e W5 ⟨rfl, rfl⟩
          have hos := hosz
          rw [← hL.out]
          go_wp2
          go_roundw
          case rel => exact ⟨k + 1, c1, true, os, bs, by omega, by go_num, rfl, rfl, hc1, hos.out, H4.out.drop, Lib.hid fun h => absurd h (by decide)⟩
          case measure => simp [intOf]; omega
        | some v =>
          obtain ⟨nn, tt, m⟩ := v
          obtain ⟨r1, r2, r3⟩ := read_some r hr4.out s0 nn tt m hG
          obtain ⟨q1, q2, q3⟩ := put_read r hr4.out s0 nn tt m hG
          rw [ho.out] at r1
          injection r1 with e1 e2 e3 e4
          subst e1; subst e2; subst e3; subst e4
          have HC := Lib.hid (get_ref r hr4.out s0 (by have := hs0'.out; omega) W2 _ (by unfold refV; rw [hG]))
          have HQ1 := Lib.hid q1
          have HQ2 := Lib.hid q2
          have HQ3 := Lib.hid q3
          have hm0 : ¬ (m : Int) = 0 := by omega
          have hmb : ((m : Int) == 0) = false := by simpa using hm0
          have heq := th_refl r on ot
          clear hG ho q1 q2 q3 hm0
          go_wp2_with fail
          rw [hW2.out, hg1.out]
          refine HC.out.mono ?_
          rintro e W3 ⟨rfl, hb3⟩
          have H3 := Lib.hid (H1.out.below hb3)
          obtain ⟨g3, hg3⟩ : ∃ g, Hid (W3.heap.size = g) := ⟨_, Lib.hid rfl⟩
          obtain ⟨W4, hW4⟩ : ∃ W4, Hid (W3.alloc (.cells #[.int .i64 r, .int .i64 on, .string ot] 32) = W4) := ⟨_, Lib.hid rfl⟩
          have H4 := Lib.hid (H3.out.lay (.cells #[.int .i64 r, .int .i64 on, .string ot] 32))
          rw [hW4.out, hg3.out] at H4
          have hx4 : W4.heap[g1]? = some (.cells #[.int .i64 r, .int .i64 on, .string ot] 32 (0, 0)) := H4.out.got (by simp)
          have hy4 : W4.heap[g3]? = some (.cells #[.int .i64 r, .int .i64 on, .string ot] 32 (0, 0)) := H4.out.got (by simp)
          obtain ⟨x0, x1, x2⟩ := th_cells hx4
          obtain ⟨y0, y1, y2⟩ := th_cells hy4
          have hx3 : W3.heap[g1]? = some (.cells #[.int .i64 r, .int .i64 on, .string ot] 32 (0, 0)) := H3.out.got (by simp)
          obtain ⟨z0, z1, z2⟩ := th_cells hx3
          have z0' : ∀ o, (W3.alloc o).cell? ⟨g1, 0, none⟩ = some (.int .i64 r) := fun o => cell_below (below_alloc W3 o) z0
          have z1' : ∀ o, (W3.alloc o).cell? ⟨g1, 1, none⟩ = some (.int .i64 on) := fun o => cell_below (below_alloc W3 o) z1
          have z2' : ∀ o, (W3.alloc o).cell? ⟨g1, 2, none⟩ = some (.string ot) := fun o => cell_below (below_alloc W3 o) z2
          clear hx4 hy4 hx3 z0 z1 z2
          obtain ⟨L2, hL2⟩ : ∃ L2, Hid (s0.extract m s0.size = L2) := ⟨_, Lib.hid rfl⟩
          rw [hL2.out] at H4
          have hL2s : Hid (L2.size = s0.size - m) := Lib.hid (by rw [← hL2.out, ByteArray.size_extract]; omega)
          clear hb3 HC
          go_wp2_with fail
          rw [hW4.out, hg3.out, hL2.out]
          refine (left_any b L2 false W4 H4.out.rd L2.size rfl).mono ?_
          rintro e W5 ⟨rfl, rfl⟩
          have HP := Lib.hid (H4.out.write (fun r' hw => put_any bw r' bs false ⟨r, on, ot⟩ W4 hw (by
            have h1 := HQ3.out
            have h2 : bs.length ≤ s.size := by rw [HBS.out, List.length_take, Array.length_toList]; exact Nat.le_trans (Nat.min_le_left _ _) hc1
            have h3 := hs0'.out
            dsimp only
            omega)))
          go_wp2_with fail
          refine HP.out.mono ?_
          rintro e W6 ⟨rfl, h6⟩
          have hok : Hid ((false || !putOk ⟨r, on, ot⟩) = false) := Lib.hid (by rw [HQ2.out]; rfl)
          rw [hok.out, HQ1.out] at h6
          have H6 := Lib.hid h6.drop
          have hfin : Hid (L2 = s.extract (c1 + m) s.size ∧ bs ++ List.take m s0.data.toList = s.data.toList.take (c1 + m)) := Lib.hid (by
            have hcl := hcL.out
            constructor
            · rw [← hL2.out, ← hL.out]
              exact (ext_ext s c1 m (by omega)).2
            · rw [HBS.out, ← hL.out, Lib.extract_to_end, List.take_add]
            )
          clear h6 HP
          rw [hfin.out.1]
          go_wp2
          go_roundw
          case rel => exact ⟨k + 1, c1 + m, false, L2, _, by omega, by go_num, rfl, rfl, by have := hcL.out; omega, by have := hL2s.out; have := hs0'.out; omega, H6.out, Lib.hid fun _ => ⟨hfin.out.1, hfin.out.2⟩⟩
          case measure => simp [intOf]; omega
    · cases q
      case true =>
        have HX := Lib.hid hRW
        clear hRW
        rw [← hL.out]
        go_wp2_with fail
        refine (end_any b s0 true wr HX.out.rd 2 rfl).mono ?_
        rintro e W3 ⟨rfl, rfl⟩
        go_wp2
        go_ret
        exact ⟨rfl, below2 HB1.out HX.out.low⟩
      case false =>
        obtain ⟨eL, hbs⟩ := hq.out rfl
        obtain rfl : s0 = L := eL
        have HBS := Lib.hid hbs
        have HX := Lib.hid hRW
        have hcL : Hid (c1 + s0.size = s.size) := Lib.hid (by rw [← hL.out, ByteArray.size_extract]; omega)
        clear hRW hq hbs
        by_cases h0 : 0 < s0.size
        · have hem : s0.toList.isEmpty = false := (isEmpty_size s0).1 h0
          go_wp2_with fail
          refine (end_any b s0 false wr HX.out.rd 5 (by simp [endR, h0])).mono ?_
          rintro e W3 ⟨rfl, rfl⟩
          go_wp2
          go_ret
          exact ⟨rfl, below2 HB1.out HX.out.low⟩
        · have hem : s0.toList.isEmpty = true := (isEmpty_size s0).2 h0
          go_wp2_with fail
          refine (end_any b s0 false wr HX.out.rd 0 (by simp [endR, h0])).mono ?_
          rintro e W3 ⟨rfl, rfl⟩
          obtain ⟨rr, hw, hlow, _⟩ := HX.out.out
          have HC := Lib.hid (string_any bw rr bs false wr hw.f (by rw [HBS.out, List.length_take, Array.length_toList]; have : s.data.size = s.size := rfl; omega))
          have hsay : Hid (saysB bs false = s) := Lib.hid (by
            have hc2 : c1 = s.size := by have := hcL.out; omega
            rw [HBS.out, hc2]
            show (⟨(List.take s.size s.data.toList).toArray⟩ : ByteArray) = s
            rw [List.take_of_length_le (by rw [Array.length_toList]; exact Nat.le_refl _)])
          rw [hsay.out] at HC
          have HLOW := Lib.hid hlow
          clear hw hlow
          go_wp2_with fail
          refine HC.out.mono ?_
          rintro e W4 ⟨rfl, _, hk4⟩
          go_wp2
          go_ret
          exact ⟨rfl, HB1.out.trans ((HX.out.low.trans (hk4.below HX.out.low.size fun x hx => (HLOW.out x (sub_blks hx)).1)).mono HB1.out.size)⟩
theorem reads_row (w : World) (s : ByteArray) (k : Sl Int) (hs : s.size ≤ 140737488351232) (hk : SlOk w 1 1 (fun n : Int => [.int .u8 n]) (fun n => (Lit.int .u8 n).wf = true) k) :
    Calls Try.prog 7 #[.string s, .slice k.A k.n k.c] w fun e w' => e = .returned (.bool true) ∧ Below w.heap.size w w' := by
  obtain ⟨l, hr, hl⟩ := u8s_rd hk
  exact reads_walk w s hs k.A k.n k.c l hr hl
end Go.Proofs.Ytfpocddpnoighaa.Wr

/- item: the document's example; ItemOrders. -/
import Derived.Laws.StructEq
import Derived.Test.YtfpocddpnoighaaMRu10
import Derived.Test.YtfpocddpnoighaaMRu11
namespace Go.Proofs.Ytfpocddpnoighaa.It
open Go.RowKit Go.Proofs.Ytfpocddpnoighaa.L Go.Proofs.Ytfpocddpnoighaa.O Go.Proofs.Ytfpocddpnoighaa.A Go.Proofs.Ytfpocddpnoighaa.R Go.Proofs.Ytfpocddpnoighaa.S Go.Proofs.Ytfpocddpnoighaa.T Go.Proofs.Ytfpocddpnoighaa.E Go.Proofs.Ytfpocddpnoighaa.Wr
set_option linter.unusedVariables false
set_option linter.unusedSimpArgs false

def tidB (a b c a' b' c' : Int) : Bool := a == a' && (b == b' && c == c')
theorem tid_eq' (d : Nat) (a b c a' b' c' : Int) (w : World) : (Op.equalIn (d + 4) 51 (.agg #[.int .i64 a, .int .i64 b, .int .i64 c]) (.agg #[.int .i64 a', .int .i64 b', .int .i64 c'])).run Try.prog w = .ok (tidB a b c a' b' c') w := by
  have hp : Try.prog.stoodInHeld 51 = false := by kernel_rfl
  have hf : Try.prog.underlying 51 = some (.struct (Try.prog.fieldsOf 51)) := by kernel_rfl
  rw [run_equalIn_agg w _ _ _ _ hf hp]
  clear hf hp
  go_simp
  by_cases h1 : a = a' <;> by_cases h2 : b = b' <;> by_cases h3 : c = c' <;> simp [h1, h2, h3, tidB]
theorem tid_eq (a b c a' b' c' : Int) (w : World) : (Op.equalIn 10000 51 (.agg #[.int .i64 a, .int .i64 b, .int .i64 c]) (.agg #[.int .i64 a', .int .i64 b', .int .i64 c'])).run Try.prog w = .ok (tidB a b c a' b' c') w := tid_eq' 9996 a b c a' b' c' w
theorem tid_guard : Try.prog.eqGuardType Try.prog.depth 51 = false := by kernel_rfl

def s24 : ByteArray := saysB ([] ++ numsB [1, 2, 3]) false
theorem s24_size : s24.size = 24 := by kernel_rfl
theorem s24_reads : nv (s24, false) = 1 ∧ nv (nxt (s24, false)) = 2 ∧ nv (nxt (nxt (s24, false))) = 3 ∧ endR (nxt (nxt (nxt (s24, false)))).1 (nxt (nxt (nxt (s24, false)))).2 = 0 := ⟨by kernel_rfl, by kernel_rfl, by kernel_rfl, by kernel_rfl⟩
theorem s24_len : ([] ++ numsB [1, 2, 3]).length ≤ 9223372036854775807 := by rw [List.nil_append, len_nums]; simp
set_option maxHeartbeats 4000000 in
set_option maxRecDepth 100000 in
theorem awake_any (w : World) : Calls Try.prog 31 #[] w fun e w' => e = .returned (.bool true) ∧ Below w.heap.size w w' := by
  have H0 := Lib.hid (wrs_new w 65 (.inr rfl))
  obtain ⟨b, hb⟩ : ∃ b, Hid (w.heap.size = b) := ⟨_, Lib.hid rfl⟩
  obtain ⟨w1, hw1⟩ : ∃ w1, Hid (w.alloc (.cells #[.pointer none, .slice none 0 0, .bool false] 65) = w1) := ⟨_, Lib.hid rfl⟩
  rw [hb.out, hw1.out] at H0
  have HC := Lib.hid (acc H0.out (fun r1 h1 => tid_put b r1 [] false 1 2 3 w1 h1 (by simp)))
  have heq : ∀ w, (Op.equalIn 10000 51 (.agg #[.int .i64 1, .int .i64 2, .int .i64 3]) (.agg #[.int .i64 1, .int .i64 2, .int .i64 3])).run Try.prog w = .ok true w := fun w => by rw [tid_eq]; rfl
  have hm := tid_guard
  go_enter Try.func31, Try.ntmps31
  go_wp2_with fail
  rw [hw1.out, hb.out]
  refine HC.out.mono ?_
  rintro e w2 ⟨rfl, h2⟩
  obtain ⟨r2, h21, h22⟩ := h2.out
  have hk2 := Lib.hid (h2.keep.below (Nat.le_refl _) (by simp))
  have HR2 := Lib.hid (show ∀ k, r2 = some k → w.heap.size ≤ k from fun k hk => by simpa using h22 k hk)
  have HS := Lib.hid (string_any b r2 _ false w2 h21.f s24_len)
  rw [show saysB ([] ++ numsB [1, 2, 3]) false = s24 from rfl] at HS
  clear h2 h21 h22 HC
  go_wp2_with fail
  refine HS.out.mono ?_
  rintro e w3 ⟨rfl, h3, hk3⟩
  have hk3' := Lib.hid (hk2.out.trans (hk3.below hk2.out.size (fun x hx => HR2.out x (by simpa using hx))))
  clear hk3 HS
  go_wp2_with fail
  refine (newreader s24 w3).mono ?_
  rintro e w4 ⟨rfl, hw4⟩
  obtain ⟨bi, hbi⟩ : ∃ bi, Hid (w3.heap.size + 1 = bi) := ⟨_, Lib.hid rfl⟩
  obtain ⟨br, hbr⟩ : ∃ br, Hid (w3.heap.size = br) := ⟨_, Lib.hid rfl⟩
  have hb34 : Below w3.heap.size w3 w4 := by rw [← hw4]; exact below2 (below_alloc _ _) (below_alloc _ _)
  have hR4 : Hid (Rdr w4 br s24 false) := Lib.hid (by rw [← hw4, ← hbr.out]; exact (rdr_new w3 s24).below (below_alloc _ _))
  have hI4 : Hid (Ird w4 bi br) := Lib.hid (by
    have := heap_alloc_new (w3.alloc (.cells #[.string s24, .bool false] 128)) (.cells #[.pointer (some ⟨w3.heap.size, 0, none⟩)] 78)
    unfold Ird
    rw [← hw4, ← hbr.out, ← hbi.out]
    rw [World.size_alloc] at this
    exact this)
  have HF4 := Lib.hid (h3.below hb34)
  have hlow4 := Lib.hid (below2 hk3'.out hb34)
  have hle : Hid (w.heap.size ≤ br) := Lib.hid (by rw [← hbr.out]; exact hk3'.out.size)
  have hne : Hid (bi ≠ br) := Lib.hid (by rw [← hbi.out, ← hbr.out]; omega)
  have hrne : Hid (∀ k, r2 = some k → k ≠ br ∧ k ≠ bi) := Lib.hid (by
    intro k hk
    have hlt : k < w3.heap.size := by
      obtain ⟨T, p, v, _, ho, hv⟩ := h3.out
      exact (ho.lt k (hv.trans hk)).2
    have := hbr.out
    have := hbi.out
    omega)
  rw [hbi.out]
  clear hw4 hb34 h3
  have HS4 := Lib.hid (string_any b r2 _ false w4 HF4.out s24_len)
  rw [show saysB ([] ++ numsB [1, 2, 3]) false = s24 from rfl] at HS4
  go_wp2_with fail
  refine HS4.out.mono ?_
  rintro e w5 ⟨rfl, h5, hk5⟩
  have hR5 := Lib.hid (hR4.out.keep hk5 (fun hm => (hrne.out br (by simpa using hm)).1 rfl))
  have hI5 : Hid (Ird w5 bi br) := Lib.hid (keep_block hk5 hI4.out (fun hm => (hrne.out bi (by simpa using hm)).2 rfl))
  have hlow5 := Lib.hid (hlow4.out.trans (hk5.below hlow4.out.size (fun x hx => HR2.out x (by simpa using hx))))
  have hsz := s24_size
  obtain ⟨e1, e2, e3, e4⟩ := s24_reads
  have HT := Lib.hid (tid_read bi br (s24, false) w5 hI5.out hR5.out hne.out (by show s24.size ≤ _; rw [hsz]; omega))
  rw [e1, e2, e3] at HT
  have HE := Lib.hid e4
  clear h5 hk5 HS4 e1 e2 e3 e4
  go_wp2_with fail
  refine HT.out.mono ?_
  rintro e w6 ⟨rfl, hR6, hk6⟩
  have HR6 := Lib.hid hR6
  have hI6 : Hid (Ird w6 bi br) := Lib.hid (keep_block hk6 hI5.out (by simpa using hne.out))
  have f6 : w6.cell? ⟨bi, 0, none⟩ = some (.pointer (some ⟨br, 0, none⟩)) := by rw [cell_of_row _ _ _ _ _ _ hI6.out]; rfl
  have hlow6 := Lib.hid (hlow5.out.trans (hk6.below hlow5.out.size (by simpa using hle.out)))
  clear hR6 hk6 HT
  go_wp2_with fail
  refine (end_any br _ _ w6 HR6.out 0 HE.out).mono ?_
  rintro e w7 ⟨rfl, rfl⟩
  go_wp2_with fail
  refine (order_any 1 0 0 2 0 0 w6 (-1) (by kernel_rfl)).mono ?_
  rintro e w7 ⟨rfl, hb7⟩
  go_wp2
  go_ret
  exact ⟨rfl, below2 hlow6.out hb7⟩
end Go.Proofs.Ytfpocddpnoighaa.It

/- ItemOrders: the walk. -/
namespace Go.Proofs.Ytfpocddpnoighaa.It
open Go.RowKit Go.Proofs.Ytfpocddpnoighaa.L Go.Proofs.Ytfpocddpnoighaa.O Go.Proofs.Ytfpocddpnoighaa.A Go.Proofs.Ytfpocddpnoighaa.R Go.Proofs.Ytfpocddpnoighaa.S Go.Proofs.Ytfpocddpnoighaa.T Go.Proofs.Ytfpocddpnoighaa.E Go.Proofs.Ytfpocddpnoighaa.Wr
set_option linter.unusedVariables false
set_option linter.unusedSimpArgs false

structure Td where
  a : Int
  b : Int
  c : Int
def encTd (t : Td) : List Value := [.int .i64 t.a, .int .i64 t.b, .int .i64 t.c]
def goodTd (t : Td) : Prop := (-9223372036854775808 ≤ t.a ∧ t.a ≤ 9223372036854775807) ∧ (-9223372036854775808 ≤ t.b ∧ t.b ≤ 9223372036854775807) ∧ (-9223372036854775808 ≤ t.c ∧ t.c ≤ 9223372036854775807)
set_option maxRecDepth 100000 in
theorem opens_td (W : World) : Opens Try.prog W 51 encTd goodTd :=
  Opens.as (opens_struct (w := W) Try.underlying51 (by kernel_rfl) (opens_fc (off' := 1) rfl (by kernel_rfl) (opens_int Try.underlying3) (opens_fc (off' := 2) rfl (by kernel_rfl) (opens_int Try.underlying3) (opens_fc (off' := 3) rfl (by kernel_rfl) (opens_int Try.underlying3) (opens_f0 3)))))
    encTd goodTd (fun x => ⟨x.1, x.2.1, x.2.2.1⟩) (fun _ => rfl) (fun _ h => ⟨i64_range h.1, i64_range h.2.1, i64_range h.2.2.1⟩)
theorem cmp_cases (a b : Int) : (a < b ∧ cmpV a b = -1) ∨ (a = b ∧ cmpV a b = 0) ∨ (b < a ∧ cmpV a b = 1) := by
  unfold cmpV
  by_cases h1 : a < b
  · simp [h1]
  · by_cases h2 : b < a
    · simp [h1, h2]
    · have : a = b := by omega
      simp [this]
theorem ord_spec (a1 a2 a3 b1 b2 b3 : Int) : (ordV a1 a2 a3 b1 b2 b3 = -1 ∧ (a1 < b1 ∨ a1 = b1 ∧ (a2 < b2 ∨ a2 = b2 ∧ a3 < b3))) ∨ (ordV a1 a2 a3 b1 b2 b3 = 0 ∧ a1 = b1 ∧ a2 = b2 ∧ a3 = b3) ∨ (ordV a1 a2 a3 b1 b2 b3 = 1 ∧ (b1 < a1 ∨ a1 = b1 ∧ (b2 < a2 ∨ a2 = b2 ∧ b3 < a3))) := by
  unfold ordV
  rcases cmp_cases a1 b1 with ⟨h1, e1⟩ | ⟨h1, e1⟩ | ⟨h1, e1⟩ <;> rcases cmp_cases a2 b2 with ⟨h2, e2⟩ | ⟨h2, e2⟩ | ⟨h2, e2⟩ <;> rcases cmp_cases a3 b3 with ⟨h3, e3⟩ | ⟨h3, e3⟩ | ⟨h3, e3⟩ <;>
    simp only [e1, e2, e3, orV] <;> simp <;> omega
theorem ord_anti (a1 a2 a3 b1 b2 b3 : Int) : ordV b1 b2 b3 a1 a2 a3 = -ordV a1 a2 a3 b1 b2 b3 := by
  have h1 := ord_spec a1 a2 a3 b1 b2 b3
  have h2 := ord_spec b1 b2 b3 a1 a2 a3
  omega
theorem ord_eq (a1 a2 a3 b1 b2 b3 : Int) : (ordV a1 a2 a3 b1 b2 b3 == 0) = tidB a1 a2 a3 b1 b2 b3 := by
  have h1 := ord_spec a1 a2 a3 b1 b2 b3
  unfold tidB
  rw [Bool.eq_iff_iff]
  simp
  omega
theorem ord_trans (a1 a2 a3 b1 b2 b3 c1 c2 c3 : Int) (h1 : ordV a1 a2 a3 b1 b2 b3 ≤ 0) (h2 : ordV b1 b2 b3 c1 c2 c3 ≤ 0) : ordV a1 a2 a3 c1 c2 c3 ≤ 0 := by
  have k1 := ord_spec a1 a2 a3 b1 b2 b3
  have k2 := ord_spec b1 b2 b3 c1 c2 c3
  have k3 := ord_spec a1 a2 a3 c1 c2 c3
  omega
theorem ord_range (a1 a2 a3 b1 b2 b3 : Int) : -1 ≤ ordV a1 a2 a3 b1 b2 b3 ∧ ordV a1 a2 a3 b1 b2 b3 ≤ 1 := by
  have k1 := ord_spec a1 a2 a3 b1 b2 b3
  omega
theorem td_cells {W : World} {g : Nat} {x y z : Int} {T : TypeId} (h : W.heap[g]? = some (.cells #[.int .i64 x, .int .i64 y, .int .i64 z] T (0, 0))) : W.cell? ⟨g, 0, none⟩ = some (.int .i64 x) ∧ W.cell? ⟨g, 1, none⟩ = some (.int .i64 y) ∧ W.cell? ⟨g, 2, none⟩ = some (.int .i64 z) :=
  ⟨by rw [cell_of_row _ _ _ _ _ _ h]; rfl, by rw [cell_of_row _ _ _ _ _ _ h]; rfl, by rw [cell_of_row _ _ _ _ _ _ h]; rfl⟩
set_option maxHeartbeats 4000000 in
set_option maxRecDepth 100000 in
theorem orders_walk (w : World) (a1 a2 a3 b1 b2 b3 c1 c2 c3 : Int) : Calls Try.prog 8 #[.agg #[.int .i64 a1, .int .i64 a2, .int .i64 a3], .agg #[.int .i64 b1, .int .i64 b2, .int .i64 b3], .agg #[.int .i64 c1, .int .i64 c2, .int .i64 c3]] w fun e w' => e = .returned (.bool true) ∧ Below w.heap.size w w' := by
  obtain ⟨n, hn⟩ : ∃ n, Hid (ordV a1 a2 a3 b1 b2 b3 = n) := ⟨_, Lib.hid rfl⟩
  obtain ⟨m, hm⟩ : ∃ m, Hid (ordV b1 b2 b3 c1 c2 c3 = m) := ⟨_, Lib.hid rfl⟩
  obtain ⟨l, hl⟩ : ∃ l, Hid (ordV a1 a2 a3 c1 c2 c3 = l) := ⟨_, Lib.hid rfl⟩
  have hn2 : Hid (ordV b1 b2 b3 a1 a2 a3 = -n) := Lib.hid (by rw [ord_anti, hn.out])
  have heqn : Hid ((n == 0) = tidB a1 a2 a3 b1 b2 b3) := Lib.hid (by rw [← hn.out]; exact ord_eq _ _ _ _ _ _)
  have htr : Hid (n ≤ 0 → m ≤ 0 → l ≤ 0) := Lib.hid (fun h1 h2 => by rw [← hl.out]; exact ord_trans _ _ _ _ _ _ _ _ _ (by rw [hn.out]; exact h1) (by rw [hm.out]; exact h2))
  have hr : -1 ≤ n ∧ n ≤ 1 := by rw [← hn.out]; exact ord_range _ _ _ _ _ _
  obtain ⟨hr1, hr2⟩ := hr
  have htq : ∀ w, (Op.equalIn 10000 51 (.agg #[.int .i64 a1, .int .i64 a2, .int .i64 a3]) (.agg #[.int .i64 b1, .int .i64 b2, .int .i64 b3])).run Try.prog w = .ok (n == 0) w := fun w => by rw [tid_eq, heqn.out]
  have htg := tid_guard
  obtain ⟨g, hg⟩ : ∃ g, Hid (w.heap.size = g) := ⟨_, Lib.hid rfl⟩
  obtain ⟨W0, hW0⟩ : ∃ W0, Hid (((w.alloc (.cells #[.int .i64 a1, .int .i64 a2, .int .i64 a3] 51)).alloc (.cells #[.int .i64 b1, .int .i64 b2, .int .i64 b3] 51)).alloc (.cells #[.int .i64 c1, .int .i64 c2, .int .i64 c3] 51) = W0) := ⟨_, Lib.hid rfl⟩
  have hb0 : Hid (Below w.heap.size w W0) := Lib.hid (by rw [← hW0.out]; exact below2 (below2 (below_alloc _ _) (below_alloc _ _)) (below_alloc _ _))
  have hA : Hid (∀ W, Below W0.heap.size W0 W → W.heap[g]? = some (.cells #[.int .i64 a1, .int .i64 a2, .int .i64 a3] 51 (0, 0)) ∧ W.heap[g + 1]? = some (.cells #[.int .i64 b1, .int .i64 b2, .int .i64 b3] 51 (0, 0)) ∧ W.heap[g + 1 + 1]? = some (.cells #[.int .i64 c1, .int .i64 c2, .int .i64 c3] 51 (0, 0))) := Lib.hid (by
    intro W hb
    rw [← hg.out]
    have e1 : W0.heap[w.heap.size]? = some (.cells #[.int .i64 a1, .int .i64 a2, .int .i64 a3] 51 (0, 0)) := by rw [← hW0.out, heap_alloc_old _ _ (by simp; omega), heap_alloc_old _ _ (by simp)]; exact heap_alloc_new _ _
    have e2 : W0.heap[w.heap.size + 1]? = some (.cells #[.int .i64 b1, .int .i64 b2, .int .i64 b3] 51 (0, 0)) := by
      rw [← hW0.out, heap_alloc_old _ _ (by simp)]
      have := heap_alloc_new (w.alloc (.cells #[.int .i64 a1, .int .i64 a2, .int .i64 a3] 51)) (.cells #[.int .i64 b1, .int .i64 b2, .int .i64 b3] 51)
      rw [World.size_alloc] at this; exact this
    have e3 : W0.heap[w.heap.size + 1 + 1]? = some (.cells #[.int .i64 c1, .int .i64 c2, .int .i64 c3] 51 (0, 0)) := by
      rw [← hW0.out]
      have := heap_alloc_new ((w.alloc (.cells #[.int .i64 a1, .int .i64 a2, .int .i64 a3] 51)).alloc (.cells #[.int .i64 b1, .int .i64 b2, .int .i64 b3] 51)) (.cells #[.int .i64 c1, .int .i64 c2, .int .i64 c3] 51)
      rw [World.size_alloc, World.size_alloc] at this; exact this
    exact ⟨keep_block (.of_below (S := []) hb) e1 (by simp), keep_block (.of_below (S := []) hb) e2 (by simp), keep_block (.of_below (S := []) hb) e3 (by simp)⟩)
  go_enter Try.func8, Try.ntmps8
  go_wp2_with fail
  rw [hW0.out, hg.out]
  refine (awake_any W0).mono ?_
  rintro e w1 ⟨rfl, hb1⟩
  have HB1 := Lib.hid hb1
  obtain ⟨q1, q2, q3⟩ := hA.out w1 hb1
  obtain ⟨x1, x2, x3⟩ := td_cells q1
  obtain ⟨y1, y2, y3⟩ := td_cells q2
  clear q1 q2 q3 hb1
  go_wp2_with fail
  refine (order_any a1 a2 a3 b1 b2 b3 w1 n hn.out).mono ?_
  rintro e w2 ⟨rfl, hb2⟩
  have HB2 := Lib.hid (below2 HB1.out hb2)
  obtain ⟨q1, q2, q3⟩ := hA.out w2 HB2.out
  clear x1 x2 x3 y1 y2 y3 hb2
  obtain ⟨x1, x2, x3⟩ := td_cells q1
  obtain ⟨y1, y2, y3⟩ := td_cells q2
  clear q1 q2 q3
  go_wp2_with fail
  refine (order_any b1 b2 b3 a1 a2 a3 w2 (-n) hn2.out).mono ?_
  rintro e w3 ⟨rfl, hb3⟩
  have HB3 := Lib.hid (below2 HB2.out hb3)
  obtain ⟨q1, q2, q3⟩ := hA.out w3 HB3.out
  clear x1 x2 x3 y1 y2 y3 hb3
  obtain ⟨x1, x2, x3⟩ := td_cells q1
  obtain ⟨y1, y2, y3⟩ := td_cells q2
  obtain ⟨z1, z2, z3⟩ := td_cells q3
  clear q1 q2 q3
  by_cases hpos : 0 < n
  · go_wp2
    go_ret
    exact ⟨rfl, below2 hb0.out HB3.out⟩
  · go_wp2_with fail
    refine (order_any b1 b2 b3 c1 c2 c3 w3 m hm.out).mono ?_
    rintro e w4 ⟨rfl, hb4⟩
    have HB4 := Lib.hid (below2 HB3.out hb4)
    obtain ⟨q1, q2, q3⟩ := hA.out w4 HB4.out
    clear x1 x2 x3 y1 y2 y3 z1 z2 z3 hb4
    obtain ⟨x1, x2, x3⟩ := td_cells q1
    obtain ⟨z1, z2, z3⟩ := td_cells q3
    clear q1 q2 q3
    by_cases hm0 : 0 < m
    · go_wp2
      go_ret
      exact ⟨rfl, below2 hb0.out HB4.out⟩
    · have hl0 : l ≤ 0 := htr.out (by omega) (by omega)
      go_wp2_with fail
      refine (order_any a1 a2 a3 c1 c2 c3 w4 l hl.out).mono ?_
      rintro e w5 ⟨rfl, hb5⟩
      go_wp2
      go_ret
      exact ⟨rfl, below2 hb0.out (below2 HB4.out hb5)⟩
theorem orders_row (w : World) (a b c : Td) (ha : goodTd a) (hb : goodTd b) (hc : goodTd c) :
    Calls Try.prog 8 #[.agg (encTd a).toArray, .agg (encTd b).toArray, .agg (encTd c).toArray] w fun e w' => e = .returned (.bool true) ∧ Below w.heap.size w w' :=
  orders_walk w a.a a.b a.c b.a b.b b.c c.a c.b c.c
end Go.Proofs.Ytfpocddpnoighaa.It

/- item: are numbers, names, items right? -/
namespace Go.Proofs.Ytfpocddpnoighaa.It
open Go.RowKit Go.Proofs.Ytfpocddpnoighaa.L Go.Proofs.Ytfpocddpnoighaa.O Go.Proofs.Ytfpocddpnoighaa.A Go.Proofs.Ytfpocddpnoighaa.R Go.Proofs.Ytfpocddpnoighaa.S Go.Proofs.Ytfpocddpnoighaa.T Go.Proofs.Ytfpocddpnoighaa.E Go.Proofs.Ytfpocddpnoighaa.Wr Go.Proofs.Ytfpocddpnoighaa.F
set_option linter.unusedVariables false
set_option linter.unusedSimpArgs false

def outN (lo hi x : Int) : Bool := decide (x < lo) || decide (hi < x)
def inB (lo hi : Int) (xs : List Int) : Bool := !xs.any (outN lo hi)
set_option maxHeartbeats 1000000 in
theorem in1 (gl gh : Nat) (lo hi x : Int) (w : World) (hl : w.cell? ⟨gl, 0, none⟩ = some (.int .i64 lo)) (hh : w.cell? ⟨gh, 0, none⟩ = some (.int .i64 hi)) :
    Calls Try.prog 130 #[.int .i64 x, .pointer (some ⟨gl, 0, none⟩), .pointer (some ⟨gh, 0, none⟩)] w fun e w' => e = .returned (.bool (outN lo hi x)) ∧ w = w' := by
  obtain ⟨r, hr⟩ : ∃ r, Hid (outN lo hi x = r) := ⟨_, Lib.hid rfl⟩
  rw [hr.out]
  by_cases h1 : x < lo
  · have er : Hid (r = true) := Lib.hid (by rw [← hr.out]; simp [outN, h1])
    go_enter Try.func130, Try.ntmps130
    go_wp2
    go_ret
    exact ⟨retb er.out, rfl⟩
  · by_cases h2 : hi < x
    · have er : Hid (r = true) := Lib.hid (by rw [← hr.out]; simp [outN, h2])
      go_enter Try.func130, Try.ntmps130
      go_wp2
      go_ret
      exact ⟨retb er.out, rfl⟩
    · have er : Hid (r = false) := Lib.hid (by rw [← hr.out]; simp [outN, h1, h2])
      go_enter Try.func130, Try.ntmps130
      go_wp2
      go_ret
      exact ⟨retbf er.out, rfl⟩
theorem bodied_in1 : Bodied Try.prog 130 := fun args w => by kernel_rfl
set_option maxHeartbeats 1000000 in
theorem in_any (lo hi : Int) (A : Option Addr) (n c : Nat) (xs : List Int) (w : World) (hr : Rd w A n (xs.map (Value.int .i64))) (q : Bool) (hq : inB lo hi xs = q) :
    Calls Try.prog 91 #[.int .i64 lo, .int .i64 hi, .slice A n c] w fun e w' => e = .returned (.bool q) ∧ Below w.heap.size w w' := by
  have hmf : ∀ (fn : Fn) (first cap : Array Value) (w : World), (Instr.makeFunc fn first cap).run Try.prog w = .ok (.func fn first cap) w := fun _ _ _ _ => rfl
  obtain ⟨W, hW⟩ : ∃ W, Hid ((w.alloc (.cells #[.int .i64 lo] 3)).alloc (.cells #[.int .i64 hi] 3) = W) := ⟨_, Lib.hid rfl⟩
  have hb0 : Below w.heap.size w W := by rw [← hW.out]; exact below2 (below_alloc _ _) (below_alloc _ _)
  have cl : W.cell? ⟨w.heap.size, 0, none⟩ = some (.int .i64 lo) := by rw [← hW.out]; exact cell_below (below_alloc _ _) (cell_alloc w _ _ 0)
  have ch : W.cell? ⟨w.heap.size + 1, 0, none⟩ = some (.int .i64 hi) := by
    rw [← hW.out]
    have := cell_alloc (w.alloc (.cells #[.int .i64 lo] 3)) #[.int .i64 hi] 3 0
    rw [World.size_alloc] at this
    exact this
  have told : Go.Proofs.Ytfpocddpnoighaa.F.Told Try.prog 130 #[.pointer (some ⟨w.heap.size, 0, none⟩), .pointer (some ⟨w.heap.size + 1, 0, none⟩)] (outN lo hi) W xs := fun x hx w1 hb =>
    (in1 w.heap.size (w.heap.size + 1) lo hi x w1 (cell_below hb cl) (cell_below hb ch)).mono fun e w' ⟨he, hw⟩ => ⟨he, hw ▸ Below.refl _ _⟩
  have HC := Lib.hid (contains_func _ _ _ A n c xs W bodied_in1 (hr.below hb0) told)
  obtain ⟨p, hp⟩ : ∃ p, Hid (xs.any (outN lo hi) = p) := ⟨_, Lib.hid rfl⟩
  have hqp : Hid ((!p) = q) := Lib.hid (by rw [← hp.out]; exact hq)
  rw [hp.out] at HC
  have HB := Lib.hid hb0
  clear hr cl ch told hb0 hq
  go_enter Try.func91, Try.ntmps91
  go_wp2_with fail
  rw [hW.out]
  refine HC.out.mono ?_
  rintro e w1 ⟨rfl, hb1⟩
  go_wp2
  go_ret
  exact ⟨retv (congrArg Value.bool hqp.out), below2 HB.out hb1⟩
/-- is a name right? -/
def tidR (t : Td) : Bool := inB 1 16 [t.a] && inB 1 1099511627776 [t.b, t.c]
set_option maxHeartbeats 1000000 in
theorem righttid_any (t : Td) (w : World) (q : Bool) (hq : tidR t = q) : Calls Try.prog 34 #[.agg #[.int .i64 t.a, .int .i64 t.b, .int .i64 t.c]] w fun e w' => e = .returned (.bool q) ∧ Below w.heap.size w w' := by
  obtain ⟨a, b, c⟩ := t
  obtain ⟨p1, hp1⟩ : ∃ p, Hid (inB 1 16 [a] = p) := ⟨_, Lib.hid rfl⟩
  obtain ⟨p2, hp2⟩ : ∃ p, Hid (inB 1 1099511627776 [b, c] = p) := ⟨_, Lib.hid rfl⟩
  have hqq : Hid ((p1 && p2) = q) := Lib.hid (by rw [← hp1.out, ← hp2.out]; exact hq)
  clear hq
  obtain ⟨g, hg⟩ : ∃ g, Hid (w.heap.size = g) := ⟨_, Lib.hid rfl⟩
  obtain ⟨W0, hW0⟩ : ∃ W0, Hid ((w.alloc (.cells #[.int .i64 a, .int .i64 b, .int .i64 c] 51)).alloc (.cells #[.int .i64 a] 3) = W0) := ⟨_, Lib.hid rfl⟩
  have hb0 : Hid (Below w.heap.size w W0) := Lib.hid (by rw [← hW0.out]; exact below2 (below_alloc _ _) (below_alloc _ _))
  have hrd : Hid (Rd W0 (some ⟨g + 1, 0, none⟩) 1 ([a].map (Value.int .i64))) := Lib.hid (by
    rw [← hW0.out, ← hg.out]
    have := heap_alloc_new (w.alloc (.cells #[.int .i64 a, .int .i64 b, .int .i64 c] 51)) (.cells #[.int .i64 a] 3)
    rw [World.size_alloc] at this
    exact rd_ints 1 this (by simp) rfl (by decide))
  have htd : Hid (W0.heap[g]? = some (.cells #[.int .i64 a, .int .i64 b, .int .i64 c] 51 (0, 0))) := Lib.hid (by
    rw [← hW0.out, ← hg.out, heap_alloc_old _ _ (by simp)]; exact heap_alloc_new _ _)
  go_enter Try.func34, Try.ntmps34
  go_wp2_with fail
  rw [hW0.out, hg.out]
  refine (in_any 1 16 _ 1 1 [a] W0 hrd.out p1 hp1.out).mono ?_
  rintro e w1 ⟨rfl, hb1⟩
  obtain ⟨f0, f1, f2⟩ := td_cells (keep_block (.of_below (S := []) hb1) htd.out (by simp))
  have HB1 := Lib.hid (below2 hb0.out hb1)
  clear hb1
  cases p1
  case false =>
    go_wp2
    go_ret
    exact ⟨retv (congrArg Value.bool hqq.out), HB1.out⟩
  case true =>
    go_wp2_with fail
    refine (in_any 1 1099511627776 _ 2 2 [b, c] _ (rd_ints 2 (heap_alloc_new _ _) (by simp) rfl (by decide)) p2 hp2.out).mono ?_
    rintro e w2 ⟨rfl, hb2⟩
    go_wp2
    go_ret
    exact ⟨retv (congrArg Value.bool hqq.out), below2 (below2 HB1.out (below_alloc _ _)) hb2⟩
set_option maxHeartbeats 1000000 in
theorem righttid_ref (t : Td) (w : World) (q : Bool) (hq' : tidR t = q) : Calls Try.prog 35 #[.agg #[.int .i64 t.a, .int .i64 t.b, .int .i64 t.c]] w fun e w' => e = .returned (.bool q) ∧ Below w.heap.size w w' := by
  obtain ⟨a, b, c⟩ := t
  have hq := Lib.hid hq'
  clear hq'
  dsimp only
  by_cases a1 : 1 ≤ a
  case neg =>
    have e : Hid (q = false) := Lib.hid (by rw [← hq.out]; simp [tidR, inB, outN]; omega)
    go_enter Try.func35, Try.ntmps35
    go_wp2
    go_ret
    exact ⟨retbf e.out, below_alloc _ _⟩
  by_cases a2 : a ≤ 16
  case neg =>
    have e : Hid (q = false) := Lib.hid (by rw [← hq.out]; simp [tidR, inB, outN]; omega)
    go_enter Try.func35, Try.ntmps35
    go_wp2
    go_ret
    exact ⟨retbf e.out, below_alloc _ _⟩
  by_cases b1 : 1 ≤ b
  case neg =>
    have e : Hid (q = false) := Lib.hid (by rw [← hq.out]; simp [tidR, inB, outN]; omega)
    go_enter Try.func35, Try.ntmps35
    go_wp2
    go_ret
    exact ⟨retbf e.out, below_alloc _ _⟩
  by_cases b2 : b ≤ 1099511627776
  case neg =>
    have e : Hid (q = false) := Lib.hid (by rw [← hq.out]; simp [tidR, inB, outN]; omega)
    go_enter Try.func35, Try.ntmps35
    go_wp2
    go_ret
    exact ⟨retbf e.out, below_alloc _ _⟩
  by_cases c1 : 1 ≤ c
  case neg =>
    have e : Hid (q = false) := Lib.hid (by rw [← hq.out]; simp [tidR, inB, outN]; omega)
    go_enter Try.func35, Try.ntmps35
    go_wp2
    go_ret
    exact ⟨retbf e.out, below_alloc _ _⟩
  by_cases c2 : c ≤ 1099511627776
  case neg =>
    have e : Hid (q = false) := Lib.hid (by rw [← hq.out]; simp [tidR, inB, outN]; omega)
    go_enter Try.func35, Try.ntmps35
    go_wp2
    go_ret
    exact ⟨retbf e.out, below_alloc _ _⟩
  have e : Hid (q = true) := Lib.hid (by rw [← hq.out]; simp [tidR, inB, outN]; omega)
  go_enter Try.func35, Try.ntmps35
  go_wp2
  go_ret
  exact ⟨retb e.out, below_alloc _ _⟩
end Go.Proofs.Ytfpocddpnoighaa.It

/- item: are items right? -/
namespace Go.Proofs.Ytfpocddpnoighaa.It
open Go.RowKit Go.Proofs.Ytfpocddpnoighaa.L Go.Proofs.Ytfpocddpnoighaa.O Go.Proofs.Ytfpocddpnoighaa.A Go.Proofs.Ytfpocddpnoighaa.R Go.Proofs.Ytfpocddpnoighaa.S Go.Proofs.Ytfpocddpnoighaa.T Go.Proofs.Ytfpocddpnoighaa.E Go.Proofs.Ytfpocddpnoighaa.Wr Go.Proofs.Ytfpocddpnoighaa.F
set_option linter.unusedVariables false
set_option linter.unusedSimpArgs false

structure Im where
  c : Int
  v : Int
  l : Int
  w : Bool
  n : Int
def encIm (x : Im) : List Value := [.int .i64 x.c, .int .i64 x.v, .int .i64 x.l, .bool x.w, .int .i64 x.n]
def goodIm (x : Im) : Prop := (-9223372036854775808 ≤ x.c ∧ x.c ≤ 9223372036854775807) ∧ (-9223372036854775808 ≤ x.v ∧ x.v ≤ 9223372036854775807) ∧ (-9223372036854775808 ≤ x.l ∧ x.l ≤ 9223372036854775807) ∧ (-9223372036854775808 ≤ x.n ∧ x.n ≤ 9223372036854775807)
set_option maxRecDepth 100000 in
theorem opens_im (W : World) : Opens Try.prog W 86 encIm goodIm :=
  Opens.as (opens_struct (w := W) Try.underlying86 (by kernel_rfl) (opens_fc (off' := 1) rfl (by kernel_rfl) (opens_int Try.underlying3) (opens_fc (off' := 2) rfl (by kernel_rfl) (opens_int Try.underlying3) (opens_fc (off' := 3) rfl (by kernel_rfl) (opens_int Try.underlying3) (opens_fc (off' := 4) rfl (by kernel_rfl) (opens_bool Try.underlying4) (opens_fc (off' := 5) rfl (by kernel_rfl) (opens_int Try.underlying3) (opens_f0 5)))))))
    encIm goodIm (fun x => ⟨x.1, x.2.1, x.2.2.1, x.2.2.2.1, x.2.2.2.2.1⟩) (fun _ => rfl) (fun _ h => ⟨i64_range h.1, i64_range h.2.1, i64_range h.2.2.1, i64_range h.2.2.2.2.1⟩)
theorem opens_ims (W : World) : Opens Try.prog W 54 (fun s : Sl Im => [.slice s.A s.n s.c]) (SlOk W 5 40 encIm goodIm) :=
  opens_slice Try.underlying54 (by kernel_rfl) (by omega) (by kernel_rfl) (opens_im W)
/-- items that are read. -/
structure Ims (w : World) (A : Option Addr) (n : Nat) (l : List Im) : Prop where
  rd : RdE w A n 5 (l.map encIm)
  good : ∀ x ∈ l, goodIm x
theorem ims_of {w : World} {s : Sl Im} (h : SlOk w 5 40 encIm goodIm s) : Ims w s.A s.n s.xs := ⟨rdE_of h, fun x hx => (h.2.2.2.2.2.1 x hx).1⟩
theorem Ims.len {w : World} {A : Option Addr} {n : Nat} {l : List Im} (h : Ims w A n l) : l.length = n := by simpa using h.rd.1
theorem Ims.below {w w1 : World} {A : Option Addr} {n : Nat} {l : List Im} (h : Ims w A n l) (hb : Below w.heap.size w w1) : Ims w1 A n l := ⟨h.rd.below hb, h.good⟩
theorem Ims.at {w : World} {A : Option Addr} {n : Nat} {l : List Im} (h : Ims w A n l) (i : Nat) (hi : i < n) (hl : i < l.length) (x : Im) (hx : l[i] = x) : ∃ b o, A = some ⟨b, o, none⟩ ∧
    w.cell? ⟨b, o + i * 5, none⟩ = some (.int .i64 x.c) ∧ w.cell? ⟨b, o + i * 5 + 1, none⟩ = some (.int .i64 x.v) ∧ w.cell? ⟨b, o + i * 5 + 2, none⟩ = some (.int .i64 x.l) ∧ w.cell? ⟨b, o + i * 5 + 3, none⟩ = some (.bool x.w) ∧ w.cell? ⟨b, o + i * 5 + 4, none⟩ = some (.int .i64 x.n) := by
  subst hx
  obtain ⟨b, o, hA, hl, hc⟩ := h.rd.at i hi
  exact ⟨b, o, hA, hc 0 (by omega), hc 1 (by omega), hc 2 (by omega), hc 3 (by omega), hc 4 (by omega)⟩
theorem it_cells {W : World} {g : Nat} {c v l n : Int} {w : Bool} {T : TypeId} (h : W.heap[g]? = some (.cells #[.int .i64 c, .int .i64 v, .int .i64 l, .bool w, .int .i64 n] T (0, 0))) : W.cell? ⟨g, 0, none⟩ = some (.int .i64 c) ∧ W.cell? ⟨g, 1, none⟩ = some (.int .i64 v) ∧ W.cell? ⟨g, 2, none⟩ = some (.int .i64 l) ∧ W.cell? ⟨g, 3, none⟩ = some (.bool w) ∧ W.cell? ⟨g, 4, none⟩ = some (.int .i64 n) :=
  ⟨by rw [cell_of_row _ _ _ _ _ _ h]; rfl, by rw [cell_of_row _ _ _ _ _ _ h]; rfl, by rw [cell_of_row _ _ _ _ _ _ h]; rfl, by rw [cell_of_row _ _ _ _ _ _ h]; rfl, by rw [cell_of_row _ _ _ _ _ _ h]; rfl⟩
/-- is an item right? -/
def itemR (x : Im) : Bool := inB 0 15 [x.c] && (inB 0 1099511627775 [x.v] && (x.w || x.n == 0))
set_option maxHeartbeats 1000000 in
theorem right_any (x : Im) (w : World) (q : Bool) (hq : itemR x = q) : Calls Try.prog 92 #[.agg #[.int .i64 x.c, .int .i64 x.v, .int .i64 x.l, .bool x.w, .int .i64 x.n]] w fun e w' => e = .returned (.bool q) ∧ Below w.heap.size w w' := by
  obtain ⟨c, v, l, wr, n⟩ := x
  obtain ⟨p1, hp1⟩ : ∃ p, Hid (inB 0 15 [c] = p) := ⟨_, Lib.hid rfl⟩
  obtain ⟨p2, hp2⟩ : ∃ p, Hid (inB 0 1099511627775 [v] = p) := ⟨_, Lib.hid rfl⟩
  have hqq : Hid ((p1 && (p2 && (wr || n == 0))) = q) := Lib.hid (by rw [← hp1.out, ← hp2.out]; exact hq)
  clear hq
  obtain ⟨g, hg⟩ : ∃ g, Hid (w.heap.size = g) := ⟨_, Lib.hid rfl⟩
  obtain ⟨W0, hW0⟩ : ∃ W0, Hid ((w.alloc (.cells #[.int .i64 c, .int .i64 v, .int .i64 l, .bool wr, .int .i64 n] 86)).alloc (.cells #[.int .i64 c] 3) = W0) := ⟨_, Lib.hid rfl⟩
  have hb0 : Hid (Below w.heap.size w W0) := Lib.hid (by rw [← hW0.out]; exact below2 (below_alloc _ _) (below_alloc _ _))
  have hrd : Hid (Rd W0 (some ⟨g + 1, 0, none⟩) 1 ([c].map (Value.int .i64))) := Lib.hid (by
    rw [← hW0.out, ← hg.out]
    have := heap_alloc_new (w.alloc (.cells #[.int .i64 c, .int .i64 v, .int .i64 l, .bool wr, .int .i64 n] 86)) (.cells #[.int .i64 c] 3)
    rw [World.size_alloc] at this
    exact rd_ints 1 this (by simp) rfl (by decide))
  have htd : Hid (W0.heap[g]? = some (.cells #[.int .i64 c, .int .i64 v, .int .i64 l, .bool wr, .int .i64 n] 86 (0, 0))) := Lib.hid (by
    rw [← hW0.out, ← hg.out, heap_alloc_old _ _ (by simp)]; exact heap_alloc_new _ _)
  go_enter Try.func92, Try.ntmps92
  go_wp2_with fail
  rw [hW0.out, hg.out]
  refine (in_any 0 15 _ 1 1 [c] W0 hrd.out p1 hp1.out).mono ?_
  rintro e w1 ⟨rfl, hb1⟩
  have ht1 := Lib.hid (keep_block (.of_below (S := []) hb1) htd.out (by simp))
  obtain ⟨f0, f1, f2, f3, f4⟩ := it_cells ht1.out
  have HB1 := Lib.hid (below2 hb0.out hb1)
  clear hb1
  cases p1
  case false =>
    go_wp2
    go_ret
    exact ⟨retv (congrArg Value.bool hqq.out), HB1.out⟩
  case true =>
    go_wp2_with fail
    refine (in_any 0 1099511627775 _ 1 1 [v] _ (rd_ints 1 (heap_alloc_new _ _) (by simp) rfl (by decide)) p2 hp2.out).mono ?_
    rintro e w2 ⟨rfl, hb2⟩
    have HB2 := Lib.hid (below2 (below2 HB1.out (below_alloc _ _)) hb2)
    clear f0 f1 f2 f3 f4
    obtain ⟨f0, f1, f2, f3, f4⟩ := it_cells (keep_block (.of_below (S := []) (below2 (below_alloc _ _) hb2)) ht1.out (by simp))
    clear hb2
    cases p2
    case false =>
      go_wp2
      go_ret
      exact ⟨retv (congrArg Value.bool hqq.out), HB2.out⟩
    case true =>
      cases wr
      case true =>
        go_wp2
        go_ret
        exact ⟨retv (congrArg Value.bool hqq.out), HB2.out⟩
      case false =>
        go_wp2
        go_ret
        exact ⟨retv (congrArg Value.bool hqq.out), HB2.out⟩
/-- are items right? -/
def im0 : Im := ⟨0, 0, 0, false, 0⟩
def okAt (l : List Im) (i : Nat) : Bool := itemR (l.getD i im0) && (i == 0 || decide ((l.getD (i - 1) im0).c < (l.getD i im0).c))
def itemsR (l : List Im) : Bool := (List.range l.length).all (okAt l) && decide (0 < l.length)
theorem itemsR_no {l : List Im} {k : Nat} (hk : k < l.length) (h : okAt l k = false) : itemsR l = false := by
  have : (List.range l.length).all (okAt l) = false := by
    rw [List.all_eq_false]
    exact ⟨k, List.mem_range.2 hk, by simp [h]⟩
  simp [itemsR, this]
theorem itemsR_end {l : List Im} (h : ∀ j, j < l.length → okAt l j = true) : itemsR l = decide (0 < l.length) := by
  have : (List.range l.length).all (okAt l) = true := by
    rw [List.all_eq_true]
    intro j hj
    exact h j (List.mem_range.1 hj)
  simp [itemsR, this]
set_option maxHeartbeats 4000000 in
set_option maxRecDepth 100000 in
theorem rightitems_any (A : Option Addr) (n ca : Nat) (l : List Im) (w : World) (h : Ims w A n l) (q : Bool) (hq' : itemsR l = q) : Calls Try.prog 36 #[.slice A n ca] w fun e w' => e = .returned (.bool q) ∧ Below w.heap.size w w' := by
  have hn9 := h.rd.2.1
  have H := Lib.hid h
  have HN := Lib.hid h.len
  have hq := Lib.hid hq'
  clear h hq'
  go_enter Try.func36, Try.ntmps36
  go_wp2
  go_loopw [7] (fun i wr => ∃ k : Nat, k ≤ n ∧ i = .int .i64 k ∧ Below w.heap.size w wr ∧ Hid (∀ j, j < k → okAt l j = true)) (fun i _ => n - (intOf i).toNat)
  case atStart => exact ⟨0, by omega, rfl, Below.refl _ _, Lib.hid fun j h => absurd h (by omega)⟩
  case round =>
    obtain ⟨k, hk, rfl, hb, hok⟩ := hrel
    by_cases hlt : k < n
    · have hkl : k < l.length := by have := HN.out; omega
      obtain ⟨x, hx⟩ : ∃ x, Hid (l[k] = x) := ⟨_, Lib.hid rfl⟩
      obtain ⟨ab, ao, hAe, c0, c1, c2, c3, c4⟩ := (H.out.below hb).at k hlt hkl x hx.out
      subst hAe
      have hgx : Hid (l.getD k im0 = x) := Lib.hid (by rw [List.getD_eq_getElem?_getD, List.getElem?_eq_getElem hkl, hx.out]; rfl)
      obtain ⟨gb, hgb⟩ : ∃ g, Hid (wr.heap.size = g) := ⟨_, Lib.hid rfl⟩
      obtain ⟨xc, xv, xl, xw, xn⟩ := x
      dsimp only at c0 c1 c2 c3 c4
      obtain ⟨W1, hW1⟩ : ∃ W1, Hid (wr.alloc (.cells #[.int .i64 xc, .int .i64 xv, .int .i64 xl, .bool xw, .int .i64 xn] 86) = W1) := ⟨_, Lib.hid rfl⟩
      have hb1 : Below wr.heap.size wr W1 := by rw [← hW1.out]; exact below_alloc _ _
      have hS0 : Below w.heap.size w W1.drew ∧ W1.drew.heap[gb]? = some (.cells #[.int .i64 xc, .int .i64 xv, .int .i64 xl, .bool xw, .int .i64 xn] 86 (0, 0)) := ⟨(below2 hb hb1).drew, by
        show W1.heap[gb]? = _
        rw [← hW1.out, ← hgb.out]; exact heap_alloc_new _ _⟩
      cases hQ : itemR ⟨xc, xv, xl, xw, xn⟩
      case false =>
        have HQ := Lib.hid hQ
        have HF : Hid (q = false) := Lib.hid (by rw [← hq.out]; exact itemsR_no hkl (by unfold okAt; rw [hgx.out, hQ]; rfl))
        clear hQ hb1 hb
        go_wp2_with fail
        rw [hW1.out, hgb.out]
        refine wp_region_one (fun W => Below w.heap.size w W ∧ W.heap[gb]? = some (.cells #[.int .i64 xc, .int .i64 xv, .int .i64 xl, .bool xw, .int .i64 xn] 86 (0, 0))) (fun u v => Below u.heap.size u v) (fun a i => match i with
            | 0 => (fun v _ => v = .agg #[.int .i64 xc, .int .i64 xv, .int .i64 xl, .bool xw, .int .i64 xn])
            | 1 => (fun v _ => v = .bool false)
            | 2 => (fun v _ => v = .bool true)
            | 3 => (fun v _ => v = .bool true)
            | 4 => (fun v _ => v = undef)
            | 5 => (fun v _ => v = undef)
            | 6 => (fun v _ => v = undef)
            | 7 => (fun v _ => v = undef)
            | 8 => (fun v _ => v = undef)
            | 9 => (fun v _ => v = undef)
            | 10 => (fun v _ => v = undef)
            | 11 => (fun v _ => v = undef)
            | 12 => (fun v _ => v = undef)
            | 13 => (fun v _ => v = undef)
            | 14 => (fun v _ => v = undef)
            | 15 => (fun v _ => v = undef)
            | 16 => (fun v _ => v = undef)
            | 17 => (fun v _ => v = .bool true)
            | _ => (fun _ _ => True)) #[0, 1, 3, 7, 15, 31, 63, 127, 127, 383, 1023, 2047, 4095, 127, 8319, 32767, 65535, 131071] #[0, 1, 2, 4, 8, 24, 40, 64, 64, 320, 704, 1088, 2112, 64, 8256, 20544, 32840, 65544] 262143 (by kernel_rfl) 18 rfl (fun m hm => by subst hm; kernel_rfl) (by kernel_rfl) (fun w => Below.refl _ w) (fun u v w h1 h2 => below2 h1 h2) ?_ (hS0) ?_ ?_
        · intro i hi
          rcases (by omega : i = 0 ∨ i = 1 ∨ i = 2 ∨ i = 3 ∨ i = 4 ∨ i = 5 ∨ i = 6 ∨ i = 7 ∨ i = 8 ∨ i = 9 ∨ i = 10 ∨ i = 11 ∨ i = 12 ∨ i = 13 ∨ i = 14 ∨ i = 15 ∨ i = 16 ∨ i = 17) with rfl | rfl | rfl | rfl | rfl | rfl | rfl | rfl | rfl | rfl | rfl | rfl | rfl | rfl | rfl | rfl | rfl | rfl
          · exact fun v w w' h hr => by exact h
          · exact fun v w w' h hr => by exact h
          · exact fun v w w' h hr => by exact h
          · exact fun v w w' h hr => by exact h
          · exact fun v w w' h hr => by exact h
          · exact fun v w w' h hr => by exact h
          · exact fun v w w' h hr => by exact h
          · exact fun v w w' h hr => by exact h
          · exact fun v w w' h hr => by exact h
          · exact fun v w w' h hr => by exact h
          · exact fun v w w' h hr => by exact h
          · exact fun v w w' h hr => by exact h
          · exact fun v w w' h hr => by exact h
          · exact fun v w w' h hr => by exact h
          · exact fun v w w' h hr => by exact h
          · exact fun v w w' h hr => by exact h
          · exact fun v w w' h hr => by exact h
          · exact fun v w w' h hr => by exact h
        · intro i hi
          rcases (by omega : i = 0 ∨ i = 1 ∨ i = 2 ∨ i = 3 ∨ i = 4 ∨ i = 5 ∨ i = 6 ∨ i = 7 ∨ i = 8 ∨ i = 9 ∨ i = 10 ∨ i = 11 ∨ i = 12 ∨ i = 13 ∨ i = 14 ∨ i = 15 ∨ i = 16 ∨ i = 17) with rfl | rfl | rfl | rfl | rfl | rfl | rfl | rfl | rfl | rfl | rfl | rfl | rfl | rfl | rfl | rfl | rfl | rfl
          · -- 0: Op.load 86 (Operand.tmp 4)
            intro l hl vs W hS hR hp
            obtain rfl : l = [] := hl.symm.trans (by kernel_rfl)
            clear hp hl
            refine opgoal (_) (some 12) rfl rfl fun K hK => ?_
            obtain ⟨f0, f1, f2, f3, f4⟩ := it_cells hS.2
            refine Runs.mk ?_
            simp only [putAll]
            go_simp
            refine hK _ _ ?_ hS ((fun w => Below.refl _ w) W) _ rfl rfl
            first | rfl | go_simp | simp
          · -- 1: Op.call { callee := Callee.value (Operand.func 92), args := #[Operand.tmp 12], argTypes := #[86] }
            intro l hl vs W hS hR hp
            obtain rfl : l = [(0, 12)] := hl.symm.trans (by kernel_rfl)
            have p0 : vs 0 = _ := hp 0 (by decide) (by decide)
            clear hp hl
            refine opgoal (_) (some 13) rfl rfl fun K hK => ?_
            refine Runs.mk ?_
            simp only [putAll]
            go_simp
            refine (right_any ⟨xc, xv, xl, xw, xn⟩ W false HQ.out).mono ?_
            rintro e w' ⟨rfl, hb⟩
            go_simp
            exact hK _ _ rfl ⟨below2 hS.1 hb, keep_block (.of_below (S := []) hb) hS.2 (by simp)⟩ hb _ rfl rfl
          · -- 2: Op.unOp UnOp.not 4 (Operand.tmp 13)
            intro l hl vs W hS hR hp
            obtain rfl : l = [(0, 12), (1, 13)] := hl.symm.trans (by kernel_rfl)
            have p1 : vs 1 = _ := hp 1 (by decide) (by decide)
            clear hp hl
            refine opgoal (_) (some 14) rfl rfl fun K hK => ?_
            refine Runs.mk ?_
            simp only [putAll]
            go_simp
            refine hK _ _ ?_ hS ((fun w => Below.refl _ w) W) _ rfl rfl
            first | rfl | go_simp | simp
          · -- 3: Op.move (Operand.tmp 14)
            intro l hl vs W hS hR hp
            obtain rfl : l = [(0, 12), (1, 13), (2, 14)] := hl.symm.trans (by kernel_rfl)
            have p2 : vs 2 = _ := hp 2 (by decide) (by decide)
            clear hp hl
            refine opgoal (_) (some 15) rfl rfl fun K hK => ?_
            refine Runs.mk ?_
            simp only [putAll]
            go_simp
            refine hK _ _ ?_ hS ((fun w => Below.refl _ w) W) _ rfl rfl
            first | rfl | go_simp | simp
          · -- 4: Op.move (Operand.tmp 3)  [(3, 'false')]
            intro l hl vs W hS hR hp
            obtain rfl : l = [(0, 12), (1, 13), (2, 14), (3, 15)] := hl.symm.trans (by kernel_rfl)
            have p3 : vs 3 = _ := hp 3 (by decide) (by decide)
            clear hp hl
            refine opgoal (_) (some 16) rfl rfl fun K hK => ?_
            refine Runs.mk ?_
            simp only [putAll]
            go_simp
            refine hK _ _ ?_ hS ((fun w => Below.refl _ w) W) _ rfl rfl
            first | rfl | go_simp | simp
          · -- 5: Op.binOp BinOp.gtr 3 (Operand.tmp 16) (Operand.const (Value.int IntKind.i64 0)) 3  [(3, 'false')]
            intro l hl vs W hS hR hp
            obtain rfl : l = [(0, 12), (1, 13), (2, 14), (3, 15), (4, 16)] := hl.symm.trans (by kernel_rfl)
            have p3 : vs 3 = _ := hp 3 (by decide) (by decide)
            have p4 : vs 4 = _ := hp 4 (by decide) (by decide)
            clear hp hl
            refine opgoal (_) (some 17) rfl rfl fun K hK => ?_
            refine Runs.mk ?_
            simp only [putAll]
            go_simp
            refine hK _ _ ?_ hS ((fun w => Below.refl _ w) W) _ rfl rfl
            first | rfl | go_simp | simp
          · -- 6: Op.move (Operand.tmp 17)  [(3, 'false')]
            intro l hl vs W hS hR hp
            obtain rfl : l = [(0, 12), (1, 13), (2, 14), (3, 15), (4, 16), (5, 17)] := hl.symm.trans (by kernel_rfl)
            have p3 : vs 3 = _ := hp 3 (by decide) (by decide)
            have p5 : vs 5 = _ := hp 5 (by decide) (by decide)
            clear hp hl
            refine opgoal (_) (some 18) rfl rfl fun K hK => ?_
            refine Runs.mk ?_
            simp only [putAll]
            go_simp
            refine hK _ _ ?_ hS ((fun w => Below.refl _ w) W) _ rfl rfl
            first | rfl | go_simp | simp
          · -- 7: Op.move (Operand.tmp 0)  [(6, 'true')]
            intro l hl vs W hS hR hp
            obtain rfl : l = [(0, 12), (1, 13), (2, 14), (3, 15), (4, 16), (5, 17), (6, 18)] := hl.symm.trans (by kernel_rfl)
            have p6 : vs 6 = _ := hp 6 (by decide) (by decide)
            clear hp hl
            refine opgoal (_) (some 19) rfl rfl fun K hK => ?_
            refine Runs.mk ?_
            simp only [putAll]
            go_simp
            refine hK _ _ ?_ hS ((fun w => Below.refl _ w) W) _ rfl rfl
            first | rfl | go_simp | simp
          · -- 8: Op.move (Operand.tmp 3)  [(6, 'true')]
            intro l hl vs W hS hR hp
            obtain rfl : l = [(0, 12), (1, 13), (2, 14), (3, 15), (4, 16), (5, 17), (6, 18)] := hl.symm.trans (by kernel_rfl)
            have p6 : vs 6 = _ := hp 6 (by decide) (by decide)
            clear hp hl
            refine opgoal (_) (some 20) rfl rfl fun K hK => ?_
            refine Runs.mk ?_
            simp only [putAll]
            go_simp
            refine hK _ _ ?_ hS ((fun w => Below.refl _ w) W) _ rfl rfl
            first | rfl | go_simp | simp
          · -- 9: Op.binOp BinOp.sub 3 (Operand.tmp 20) (Operand.const (Value.int IntKind.i64 1)) 3  [(6, 'true')]
            intro l hl vs W hS hR hp
            obtain rfl : l = [(0, 12), (1, 13), (2, 14), (3, 15), (4, 16), (5, 17), (6, 18), (8, 20)] := hl.symm.trans (by kernel_rfl)
            have p6 : vs 6 = _ := hp 6 (by decide) (by decide)
            have p8 : vs 8 = _ := hp 8 (by decide) (by decide)
            clear hp hl
            refine opgoal (_) (some 21) rfl rfl fun K hK => ?_
            refine Runs.mk ?_
            simp only [putAll]
            go_simp
            refine hK _ _ ?_ hS ((fun w => Below.refl _ w) W) _ rfl rfl
            first | rfl | go_simp | simp
          · -- 10: Op.indexAddr 54 (Operand.tmp 19) (Operand.tmp 21)  [(6, 'true')]
            intro l hl vs W hS hR hp
            obtain rfl : l = [(0, 12), (1, 13), (2, 14), (3, 15), (4, 16), (5, 17), (6, 18), (7, 19), (8, 20), (9, 21)] := hl.symm.trans (by kernel_rfl)
            have p6 : vs 6 = _ := hp 6 (by decide) (by decide)
            have p7 : vs 7 = _ := hp 7 (by decide) (by decide)
            have p9 : vs 9 = _ := hp 9 (by decide) (by decide)
            clear hp hl
            refine opgoal (_) (some 22) rfl rfl fun K hK => ?_
            refine Runs.mk ?_
            simp only [putAll]
            go_simp
            refine hK _ _ ?_ hS ((fun w => Below.refl _ w) W) _ rfl rfl
            first | rfl | go_simp | simp
          · -- 11: Op.fieldAddr 86 (Operand.tmp 22) 0  [(6, 'true')]
            intro l hl vs W hS hR hp
            obtain rfl : l = [(0, 12), (1, 13), (2, 14), (3, 15), (4, 16), (5, 17), (6, 18), (7, 19), (8, 20), (9, 21), (10, 22)] := hl.symm.trans (by kernel_rfl)
            have p6 : vs 6 = _ := hp 6 (by decide) (by decide)
            have p10 : vs 10 = _ := hp 10 (by decide) (by decide)
            clear hp hl
            refine opgoal (_) (some 23) rfl rfl fun K hK => ?_
            refine Runs.mk ?_
            simp only [putAll]
            go_simp
            refine hK _ _ ?_ hS ((fun w => Below.refl _ w) W) _ rfl rfl
            first | rfl | go_simp | simp
          · -- 12: Op.load 3 (Operand.tmp 23)  [(6, 'true')]
            intro l hl vs W hS hR hp
            obtain rfl : l = [(0, 12), (1, 13), (2, 14), (3, 15), (4, 16), (5, 17), (6, 18), (7, 19), (8, 20), (9, 21), (10, 22), (11, 23)] := hl.symm.trans (by kernel_rfl)
            have p6 : vs 6 = _ := hp 6 (by decide) (by decide)
            have p11 : vs 11 = _ := hp 11 (by decide) (by decide)
            clear hp hl
            refine opgoal (_) (some 24) rfl rfl fun K hK => ?_
            refine Runs.mk ?_
            simp only [putAll]
            go_simp
            refine hK _ _ ?_ hS ((fun w => Below.refl _ w) W) _ rfl rfl
            first | rfl | go_simp | simp
          · -- 13: Op.fieldAddr 86 (Operand.tmp 4) 0  [(6, 'true')]
            intro l hl vs W hS hR hp
            obtain rfl : l = [(0, 12), (1, 13), (2, 14), (3, 15), (4, 16), (5, 17), (6, 18)] := hl.symm.trans (by kernel_rfl)
            have p6 : vs 6 = _ := hp 6 (by decide) (by decide)
            clear hp hl
            refine opgoal (_) (some 25) rfl rfl fun K hK => ?_
            refine Runs.mk ?_
            simp only [putAll]
            go_simp
            refine hK _ _ ?_ hS ((fun w => Below.refl _ w) W) _ rfl rfl
            first | rfl | go_simp | simp
          · -- 14: Op.load 3 (Operand.tmp 25)  [(6, 'true')]
            intro l hl vs W hS hR hp
            obtain rfl : l = [(0, 12), (1, 13), (2, 14), (3, 15), (4, 16), (5, 17), (6, 18), (13, 25)] := hl.symm.trans (by kernel_rfl)
            have p6 : vs 6 = _ := hp 6 (by decide) (by decide)
            have p13 : vs 13 = _ := hp 13 (by decide) (by decide)
            clear hp hl
            refine opgoal (_) (some 26) rfl rfl fun K hK => ?_
            refine Runs.mk ?_
            simp only [putAll]
            go_simp
            refine hK _ _ ?_ hS ((fun w => Below.refl _ w) W) _ rfl rfl
            first | rfl | go_simp | simp
          · -- 15: Op.binOp BinOp.geq 3 (Operand.tmp 24) (Operand.tmp 26) 3  [(6, 'true')]
            intro l hl vs W hS hR hp
            obtain rfl : l = [(0, 12), (1, 13), (2, 14), (3, 15), (4, 16), (5, 17), (6, 18), (7, 19), (8, 20), (9, 21), (10, 22), (11, 23), (12, 24), (13, 25), (14, 26)] := hl.symm.trans (by kernel_rfl)
            have p6 : vs 6 = _ := hp 6 (by decide) (by decide)
            have p12 : vs 12 = _ := hp 12 (by decide) (by decide)
            have p14 : vs 14 = _ := hp 14 (by decide) (by decide)
            clear hp hl
            refine opgoal (_) (some 27) rfl rfl fun K hK => ?_
            refine Runs.mk ?_
            simp only [putAll]
            go_simp
            refine hK _ _ ?_ hS ((fun w => Below.refl _ w) W) _ rfl rfl
            first | rfl | go_simp | simp
          · -- 16: Op.pick (Operand.tmp 18) (Operand.tmp 27) (Operand.const (Value.bool false))  [(3, 'false')]
            intro l hl vs W hS hR hp
            obtain rfl : l = [(0, 12), (1, 13), (2, 14), (3, 15), (4, 16), (5, 17), (6, 18), (7, 19), (8, 20), (9, 21), (10, 22), (11, 23), (12, 24), (13, 25), (14, 26), (15, 27)] := hl.symm.trans (by kernel_rfl)
            have p3 : vs 3 = _ := hp 3 (by decide) (by decide)
            have p6 : vs 6 = _ := hp 6 (by decide) (by decide)
            have p15 : vs 15 = _ := hp 15 (by decide) (by decide)
            clear hp hl
            refine opgoal (_) (some 28) rfl rfl fun K hK => ?_
            refine Runs.mk ?_
            simp only [putAll]
            go_simp
            refine hK _ _ ?_ hS ((fun w => Below.refl _ w) W) _ rfl rfl
            first | rfl | go_simp | simp
          · -- 17: Op.pick (Operand.tmp 15) (Operand.const (Value.bool true)) (Operand.tmp 28)
            intro l hl vs W hS hR hp
            obtain rfl : l = [(0, 12), (1, 13), (2, 14), (3, 15), (4, 16), (5, 17), (6, 18), (7, 19), (8, 20), (9, 21), (10, 22), (11, 23), (12, 24), (13, 25), (14, 26), (15, 27), (16, 28)] := hl.symm.trans (by kernel_rfl)
            have p3 : vs 3 = _ := hp 3 (by decide) (by decide)
            have p16 : vs 16 = _ := hp 16 (by decide) (by decide)
            clear hp hl
            refine opgoal (_) (some 29) rfl rfl fun K hK => ?_
            refine Runs.mk ?_
            simp only [putAll]
            go_simp
            refine hK _ _ ?_ hS ((fun w => Below.refl _ w) W) _ rfl rfl
            first | rfl | go_simp | simp
        · intro l hl vs W hS hR hp
          obtain rfl : l = [(0, 12), (1, 13), (2, 14), (3, 15), (4, 16), (5, 17), (6, 18), (7, 19), (8, 20), (9, 21), (10, 22), (11, 23), (12, 24), (13, 25), (14, 26), (15, 27), (16, 28), (17, 29)] := hl.symm.trans (by kernel_rfl)
          have p0 : vs 0 = _ := hp 0 (by decide) (by decide)
          have p1 : vs 1 = _ := hp 1 (by decide) (by decide)
          have p2 : vs 2 = _ := hp 2 (by decide) (by decide)
          have p3 : vs 3 = _ := hp 3 (by decide) (by decide)
          have p4 : vs 4 = _ := hp 4 (by decide) (by decide)
          have p5 : vs 5 = _ := hp 5 (by decide) (by decide)
          have p6 : vs 6 = _ := hp 6 (by decide) (by decide)
          have p7 : vs 7 = _ := hp 7 (by decide) (by decide)
          have p8 : vs 8 = _ := hp 8 (by decide) (by decide)
          have p9 : vs 9 = _ := hp 9 (by decide) (by decide)
          have p10 : vs 10 = _ := hp 10 (by decide) (by decide)
          have p11 : vs 11 = _ := hp 11 (by decide) (by decide)
          have p12 : vs 12 = _ := hp 12 (by decide) (by decide)
          have p13 : vs 13 = _ := hp 13 (by decide) (by decide)
          have p14 : vs 14 = _ := hp 14 (by decide) (by decide)
          have p15 : vs 15 = _ := hp 15 (by decide) (by decide)
          have p16 : vs 16 = _ := hp 16 (by decide) (by decide)
          have p17 : vs 17 = _ := hp 17 (by decide) (by decide)
          clear hp hl
          simp only [putAll_mk, setAll, List.setIfInBounds_toArray, List.set_cons_succ, List.set_cons_zero, p0, p1, p2, p3, p4, p5, p6, p7, p8, p9, p10, p11, p12, p13, p14, p15, p16, p17]
          have HS := Lib.hid hS.1
          clear hS hR hS0
          go_wp2
          go_ret
          exact ⟨retbf HF.out, HS.out⟩
      case true =>
        have HQ := Lib.hid hQ
        cases k with
        | zero =>
          have HST : Hid (∀ j, j < 1 → okAt l j = true) := Lib.hid (by
            intro j hj
            obtain rfl : j = 0 := by omega
            unfold okAt
            rw [hgx.out, hQ]
            rfl)
          simp only [Nat.zero_mul, Nat.add_zero] at c0 c1 c2 c3 c4
          rw [show ((0 : Nat) : Int) = 0 from rfl]
          clear hQ hb1 hb
          go_wp2_with fail
          rw [hW1.out, hgb.out]
          refine wp_region_one (fun W => Below w.heap.size w W ∧ W.heap[gb]? = some (.cells #[.int .i64 xc, .int .i64 xv, .int .i64 xl, .bool xw, .int .i64 xn] 86 (0, 0))) (fun u v => Below u.heap.size u v) (fun a i => match i with
              | 0 => (fun v _ => v = .agg #[.int .i64 xc, .int .i64 xv, .int .i64 xl, .bool xw, .int .i64 xn])
              | 1 => (fun v _ => v = .bool true)
              | 2 => (fun v _ => v = .bool false)
              | 3 => (fun v _ => v = .bool false)
              | 4 => (fun v _ => v = .int .i64 0)
              | 5 => (fun v _ => v = .bool false)
              | 6 => (fun v _ => v = .bool false)
              | 7 => (fun v _ => v = undef)
              | 8 => (fun v _ => v = undef)
              | 9 => (fun v _ => v = undef)
              | 10 => (fun v _ => v = undef)
              | 11 => (fun v _ => v = undef)
              | 12 => (fun v _ => v = undef)
              | 13 => (fun v _ => v = undef)
              | 14 => (fun v _ => v = undef)
              | 15 => (fun v _ => v = undef)
              | 16 => (fun v _ => v = .bool false)
              | 17 => (fun v _ => v = .bool false)
              | _ => (fun _ _ => True)) #[0, 1, 3, 7, 15, 31, 63, 127, 127, 383, 1023, 2047, 4095, 127, 8319, 32767, 65535, 131071] #[0, 1, 2, 4, 8, 24, 40, 64, 64, 320, 704, 1088, 2112, 64, 8256, 20544, 32840, 65544] 262143 (by kernel_rfl) 18 rfl (fun m hm => by subst hm; kernel_rfl) (by kernel_rfl) (fun w => Below.refl _ w) (fun u v w h1 h2 => below2 h1 h2) ?_ (hS0) ?_ ?_
          · intro i hi
            rcases (by omega : i = 0 ∨ i = 1 ∨ i = 2 ∨ i = 3 ∨ i = 4 ∨ i = 5 ∨ i = 6 ∨ i = 7 ∨ i = 8 ∨ i = 9 ∨ i = 10 ∨ i = 11 ∨ i = 12 ∨ i = 13 ∨ i = 14 ∨ i = 15 ∨ i = 16 ∨ i = 17) with rfl | rfl | rfl | rfl | rfl | rfl | rfl | rfl | rfl | rfl | rfl | rfl | rfl | rfl | rfl | rfl | rfl | rfl
            · exact fun v w w' h hr => by exact h
            · exact fun v w w' h hr => by exact h
            · exact fun v w w' h hr => by exact h
            · exact fun v w w' h hr => by exact h
            · exact fun v w w' h hr => by exact h
            · exact fun v w w' h hr => by exact h
            · exact fun v w w' h hr => by exact h
            · exact fun v w w' h hr => by exact h
            · exact fun v w w' h hr => by exact h
            · exact fun v w w' h hr => by exact h
            · exact fun v w w' h hr => by exact h
            · exact fun v w w' h hr => by exact h
            · exact fun v w w' h hr => by exact h
            · exact fun v w w' h hr => by exact h
            · exact fun v w w' h hr => by exact h
            · exact fun v w w' h hr => by exact h
            · exact fun v w w' h hr => by exact h
            · exact fun v w w' h hr => by exact h
          · intro i hi
            rcases (by omega : i = 0 ∨ i = 1 ∨ i = 2 ∨ i = 3 ∨ i = 4 ∨ i = 5 ∨ i = 6 ∨ i = 7 ∨ i = 8 ∨ i = 9 ∨ i = 10 ∨ i = 11 ∨ i = 12 ∨ i = 13 ∨ i = 14 ∨ i = 15 ∨ i = 16 ∨ i = 17) with rfl | rfl | rfl | rfl | rfl | rfl | rfl | rfl | rfl | rfl | rfl | rfl | rfl | rfl | rfl | rfl | rfl | rfl
            · -- 0: Op.load 86 (Operand.tmp 4)
              intro l hl vs W hS hR hp
              obtain rfl : l = [] := hl.symm.trans (by kernel_rfl)
              clear hp hl
              refine opgoal (_) (some 12) rfl rfl fun K hK => ?_
              obtain ⟨f0, f1, f2, f3, f4⟩ := it_cells hS.2
              refine Runs.mk ?_
              simp only [putAll]
              go_simp
              refine hK _ _ ?_ hS ((fun w => Below.refl _ w) W) _ rfl rfl
              first | rfl | go_simp | simp
            · -- 1: Op.call { callee := Callee.value (Operand.func 92), args := #[Operand.tmp 12], argTypes := #[86] }
              intro l hl vs W hS hR hp
              obtain rfl : l = [(0, 12)] := hl.symm.trans (by kernel_rfl)
              have p0 : vs 0 = _ := hp 0 (by decide) (by decide)
              clear hp hl
              refine opgoal (_) (some 13) rfl rfl fun K hK => ?_
              refine Runs.mk ?_
              simp only [putAll]
              go_simp
              refine (right_any ⟨xc, xv, xl, xw, xn⟩ W true HQ.out).mono ?_
              rintro e w' ⟨rfl, hb⟩
              go_simp
              exact hK _ _ rfl ⟨below2 hS.1 hb, keep_block (.of_below (S := []) hb) hS.2 (by simp)⟩ hb _ rfl rfl
            · -- 2: Op.unOp UnOp.not 4 (Operand.tmp 13)
              intro l hl vs W hS hR hp
              obtain rfl : l = [(0, 12), (1, 13)] := hl.symm.trans (by kernel_rfl)
              have p1 : vs 1 = _ := hp 1 (by decide) (by decide)
              clear hp hl
              refine opgoal (_) (some 14) rfl rfl fun K hK => ?_
              refine Runs.mk ?_
              simp only [putAll]
              go_simp
              refine hK _ _ ?_ hS ((fun w => Below.refl _ w) W) _ rfl rfl
              first | rfl | go_simp | simp
            · -- 3: Op.move (Operand.tmp 14)
              intro l hl vs W hS hR hp
              obtain rfl : l = [(0, 12), (1, 13), (2, 14)] := hl.symm.trans (by kernel_rfl)
              have p2 : vs 2 = _ := hp 2 (by decide) (by decide)
              clear hp hl
              refine opgoal (_) (some 15) rfl rfl fun K hK => ?_
              refine Runs.mk ?_
              simp only [putAll]
              go_simp
              refine hK _ _ ?_ hS ((fun w => Below.refl _ w) W) _ rfl rfl
              first | rfl | go_simp | simp
            · -- 4: Op.move (Operand.tmp 3)  [(3, 'false')]
              intro l hl vs W hS hR hp
              obtain rfl : l = [(0, 12), (1, 13), (2, 14), (3, 15)] := hl.symm.trans (by kernel_rfl)
              have p3 : vs 3 = _ := hp 3 (by decide) (by decide)
              clear hp hl
              refine opgoal (_) (some 16) rfl rfl fun K hK => ?_
              refine Runs.mk ?_
              simp only [putAll]
              go_simp
              refine hK _ _ ?_ hS ((fun w => Below.refl _ w) W) _ rfl rfl
              first | rfl | go_simp | simp
            · -- 5: Op.binOp BinOp.gtr 3 (Operand.tmp 16) (Operand.const (Value.int IntKind.i64 0)) 3  [(3, 'false')]
              intro l hl vs W hS hR hp
              obtain rfl : l = [(0, 12), (1, 13), (2, 14), (3, 15), (4, 16)] := hl.symm.trans (by kernel_rfl)
              have p3 : vs 3 = _ := hp 3 (by decide) (by decide)
              have p4 : vs 4 = _ := hp 4 (by decide) (by decide)
              clear hp hl
              refine opgoal (_) (some 17) rfl rfl fun K hK => ?_
              refine Runs.mk ?_
              simp only [putAll]
              go_simp
              refine hK _ _ ?_ hS ((fun w => Below.refl _ w) W) _ rfl rfl
              first | rfl | go_simp | simp
            · -- 6: Op.move (Operand.tmp 17)  [(3, 'false')]
              intro l hl vs W hS hR hp
              obtain rfl : l = [(0, 12), (1, 13), (2, 14), (3, 15), (4, 16), (5, 17)] := hl.symm.trans (by kernel_rfl)
              have p3 : vs 3 = _ := hp 3 (by decide) (by decide)
              have p5 : vs 5 = _ := hp 5 (by decide) (by decide)
              clear hp hl
              refine opgoal (_) (some 18) rfl rfl fun K hK => ?_
              refine Runs.mk ?_
              simp only [putAll]
              go_simp
              refine hK _ _ ?_ hS ((fun w => Below.refl _ w) W) _ rfl rfl
              first | rfl | go_simp | simp
            · -- 7: Op.move (Operand.tmp 0)  [(6, 'true')]
              intro l hl vs W hS hR hp
              obtain rfl : l = [(0, 12), (1, 13), (2, 14), (3, 15), (4, 16), (5, 17), (6, 18)] := hl.symm.trans (by kernel_rfl)
              have p6 : vs 6 = _ := hp 6 (by decide) (by decide)
              clear hp hl
              refine opgoal (_) (some 19) rfl rfl fun K hK => ?_
              refine Runs.mk ?_
              simp only [putAll]
              go_simp
              refine hK _ _ ?_ hS ((fun w => Below.refl _ w) W) _ rfl rfl
              first | rfl | go_simp | simp
            · -- 8: Op.move (Operand.tmp 3)  [(6, 'true')]
              intro l hl vs W hS hR hp
              obtain rfl : l = [(0, 12), (1, 13), (2, 14), (3, 15), (4, 16), (5, 17), (6, 18)] := hl.symm.trans (by kernel_rfl)
              have p6 : vs 6 = _ := hp 6 (by decide) (by decide)
              clear hp hl
              refine opgoal (_) (some 20) rfl rfl fun K hK => ?_
              refine Runs.mk ?_
              simp only [putAll]
              go_simp
              refine hK _ _ ?_ hS ((fun w => Below.refl _ w) W) _ rfl rfl
              first | rfl | go_simp | simp
            · -- 9: Op.binOp BinOp.sub 3 (Operand.tmp 20) (Operand.const (Value.int IntKind.i64 1)) 3  [(6, 'true')]
              intro l hl vs W hS hR hp
              obtain rfl : l = [(0, 12), (1, 13), (2, 14), (3, 15), (4, 16), (5, 17), (6, 18), (8, 20)] := hl.symm.trans (by kernel_rfl)
              have p6 : vs 6 = _ := hp 6 (by decide) (by decide)
              have p8 : vs 8 = _ := hp 8 (by decide) (by decide)
              clear hp hl
              refine opgoal (_) (some 21) rfl rfl fun K hK => ?_
              refine Runs.mk ?_
              simp only [putAll]
              go_simp
              refine hK _ _ ?_ hS ((fun w => Below.refl _ w) W) _ rfl rfl
              first | rfl | go_simp | simp
            · -- 10: Op.indexAddr 54 (Operand.tmp 19) (Operand.tmp 21)  [(6, 'true')]
              intro l hl vs W hS hR hp
              obtain rfl : l = [(0, 12), (1, 13), (2, 14), (3, 15), (4, 16), (5, 17), (6, 18), (7, 19), (8, 20), (9, 21)] := hl.symm.trans (by kernel_rfl)
              have p6 : vs 6 = _ := hp 6 (by decide) (by decide)
              have p7 : vs 7 = _ := hp 7 (by decide) (by decide)
              have p9 : vs 9 = _ := hp 9 (by decide) (by decide)
              clear hp hl
              refine opgoal (_) (some 22) rfl rfl fun K hK => ?_
              refine Runs.mk ?_
              simp only [putAll]
              go_simp
              refine hK _ _ ?_ hS ((fun w => Below.refl _ w) W) _ rfl rfl
              first | rfl | go_simp | simp
            · -- 11: Op.fieldAddr 86 (Operand.tmp 22) 0  [(6, 'true')]
              intro l hl vs W hS hR hp
              obtain rfl : l = [(0, 12), (1, 13), (2, 14), (3, 15), (4, 16), (5, 17), (6, 18), (7, 19), (8, 20), (9, 21), (10, 22)] := hl.symm.trans (by kernel_rfl)
              have p6 : vs 6 = _ := hp 6 (by decide) (by decide)
              have p10 : vs 10 = _ := hp 10 (by decide) (by decide)
              clear hp hl
              refine opgoal (_) (some 23) rfl rfl fun K hK => ?_
              refine Runs.mk ?_
              simp only [putAll]
              go_simp
              refine hK _ _ ?_ hS ((fun w => Below.refl _ w) W) _ rfl rfl
              first | rfl | go_simp | simp
            · -- 12: Op.load 3 (Operand.tmp 23)  [(6, 'true')]
              intro l hl vs W hS hR hp
              obtain rfl : l = [(0, 12), (1, 13), (2, 14), (3, 15), (4, 16), (5, 17), (6, 18), (7, 19), (8, 20), (9, 21), (10, 22), (11, 23)] := hl.symm.trans (by kernel_rfl)
              have p6 : vs 6 = _ := hp 6 (by decide) (by decide)
              have p11 : vs 11 = _ := hp 11 (by decide) (by decide)
              clear hp hl
              refine opgoal (_) (some 24) rfl rfl fun K hK => ?_
              refine Runs.mk ?_
              simp only [putAll]
              go_simp
              refine hK _ _ ?_ hS ((fun w => Below.refl _ w) W) _ rfl rfl
              first | rfl | go_simp | simp
            · -- 13: Op.fieldAddr 86 (Operand.tmp 4) 0  [(6, 'true')]
              intro l hl vs W hS hR hp
              obtain rfl : l = [(0, 12), (1, 13), (2, 14), (3, 15), (4, 16), (5, 17), (6, 18)] := hl.symm.trans (by kernel_rfl)
              have p6 : vs 6 = _ := hp 6 (by decide) (by decide)
              clear hp hl
              refine opgoal (_) (some 25) rfl rfl fun K hK => ?_
              refine Runs.mk ?_
              simp only [putAll]
              go_simp
              refine hK _ _ ?_ hS ((fun w => Below.refl _ w) W) _ rfl rfl
              first | rfl | go_simp | simp
            · -- 14: Op.load 3 (Operand.tmp 25)  [(6, 'true')]
              intro l hl vs W hS hR hp
              obtain rfl : l = [(0, 12), (1, 13), (2, 14), (3, 15), (4, 16), (5, 17), (6, 18), (13, 25)] := hl.symm.trans (by kernel_rfl)
              have p6 : vs 6 = _ := hp 6 (by decide) (by decide)
              have p13 : vs 13 = _ := hp 13 (by decide) (by decide)
              clear hp hl
              refine opgoal (_) (some 26) rfl rfl fun K hK => ?_
              refine Runs.mk ?_
              simp only [putAll]
              go_simp
              refine hK _ _ ?_ hS ((fun w => Below.refl _ w) W) _ rfl rfl
              first | rfl | go_simp | simp
            · -- 15: Op.binOp BinOp.geq 3 (Operand.tmp 24) (Operand.tmp 26) 3  [(6, 'true')]
              intro l hl vs W hS hR hp
              obtain rfl : l = [(0, 12), (1, 13), (2, 14), (3, 15), (4, 16), (5, 17), (6, 18), (7, 19), (8, 20), (9, 21), (10, 22), (11, 23), (12, 24), (13, 25), (14, 26)] := hl.symm.trans (by kernel_rfl)
              have p6 : vs 6 = _ := hp 6 (by decide) (by decide)
              have p12 : vs 12 = _ := hp 12 (by decide) (by decide)
              have p14 : vs 14 = _ := hp 14 (by decide) (by decide)
              clear hp hl
              refine opgoal (_) (some 27) rfl rfl fun K hK => ?_
              refine Runs.mk ?_
              simp only [putAll]
              go_simp
              refine hK _ _ ?_ hS ((fun w => Below.refl _ w) W) _ rfl rfl
              first | rfl | go_simp | simp
            · -- 16: Op.pick (Operand.tmp 18) (Operand.tmp 27) (Operand.const (Value.bool false))  [(3, 'false')]
              intro l hl vs W hS hR hp
              obtain rfl : l = [(0, 12), (1, 13), (2, 14), (3, 15), (4, 16), (5, 17), (6, 18), (7, 19), (8, 20), (9, 21), (10, 22), (11, 23), (12, 24), (13, 25), (14, 26), (15, 27)] := hl.symm.trans (by kernel_rfl)
              have p3 : vs 3 = _ := hp 3 (by decide) (by decide)
              have p6 : vs 6 = _ := hp 6 (by decide) (by decide)
              have p15 : vs 15 = _ := hp 15 (by decide) (by decide)
              clear hp hl
              refine opgoal (_) (some 28) rfl rfl fun K hK => ?_
              refine Runs.mk ?_
              simp only [putAll]
              go_simp
              refine hK _ _ ?_ hS ((fun w => Below.refl _ w) W) _ rfl rfl
              first | rfl | go_simp | simp
            · -- 17: Op.pick (Operand.tmp 15) (Operand.const (Value.bool true)) (Operand.tmp 28)
              intro l hl vs W hS hR hp
              obtain rfl : l = [(0, 12), (1, 13), (2, 14), (3, 15), (4, 16), (5, 17), (6, 18), (7, 19), (8, 20), (9, 21), (10, 22), (11, 23), (12, 24), (13, 25), (14, 26), (15, 27), (16, 28)] := hl.symm.trans (by kernel_rfl)
              have p3 : vs 3 = _ := hp 3 (by decide) (by decide)
              have p16 : vs 16 = _ := hp 16 (by decide) (by decide)
              clear hp hl
              refine opgoal (_) (some 29) rfl rfl fun K hK => ?_
              refine Runs.mk ?_
              simp only [putAll]
              go_simp
              refine hK _ _ ?_ hS ((fun w => Below.refl _ w) W) _ rfl rfl
              first | rfl | go_simp | simp
          · intro l hl vs W hS hR hp
            obtain rfl : l = [(0, 12), (1, 13), (2, 14), (3, 15), (4, 16), (5, 17), (6, 18), (7, 19), (8, 20), (9, 21), (10, 22), (11, 23), (12, 24), (13, 25), (14, 26), (15, 27), (16, 28), (17, 29)] := hl.symm.trans (by kernel_rfl)
            have p0 : vs 0 = _ := hp 0 (by decide) (by decide)
            have p1 : vs 1 = _ := hp 1 (by decide) (by decide)
            have p2 : vs 2 = _ := hp 2 (by decide) (by decide)
            have p3 : vs 3 = _ := hp 3 (by decide) (by decide)
            have p4 : vs 4 = _ := hp 4 (by decide) (by decide)
            have p5 : vs 5 = _ := hp 5 (by decide) (by decide)
            have p6 : vs 6 = _ := hp 6 (by decide) (by decide)
            have p7 : vs 7 = _ := hp 7 (by decide) (by decide)
            have p8 : vs 8 = _ := hp 8 (by decide) (by decide)
            have p9 : vs 9 = _ := hp 9 (by decide) (by decide)
            have p10 : vs 10 = _ := hp 10 (by decide) (by decide)
            have p11 : vs 11 = _ := hp 11 (by decide) (by decide)
            have p12 : vs 12 = _ := hp 12 (by decide) (by decide)
            have p13 : vs 13 = _ := hp 13 (by decide) (by decide)
            have p14 : vs 14 = _ := hp 14 (by decide) (by decide)
            have p15 : vs 15 = _ := hp 15 (by decide) (by decide)
            have p16 : vs 16 = _ := hp 16 (by decide) (by decide)
            have p17 : vs 17 = _ := hp 17 (by decide) (by decide)
            clear hp hl
            simp only [putAll_mk, setAll, List.setIfInBounds_toArray, List.set_cons_succ, List.set_cons_zero, p0, p1, p2, p3, p4, p5, p6, p7, p8, p9, p10, p11, p12, p13, p14, p15, p16, p17]
            have HS := Lib.hid hS.1
            clear hS hR hS0
            go_wp2
            go_roundw
            case rel => exact ⟨1, by omega, rfl, HS.out, HST.out⟩
            case measure => simp [intOf]; omega
        | succ j =>
          have hjl : j < l.length := by omega
          obtain ⟨y, hy⟩ : ∃ y, Hid (l[j] = y) := ⟨_, Lib.hid rfl⟩
          obtain ⟨ab2, ao2, hAe2, d0, _⟩ := (H.out.below hb).at j (by omega) hjl y hy.out
          injection hAe2 with hAe2
          injection hAe2 with e1 e2 _
          subst e1; subst e2
          have hgy : Hid (l.getD j im0 = y) := Lib.hid (by rw [List.getD_eq_getElem?_getD, List.getElem?_eq_getElem hjl, hy.out]; rfl)
          obtain ⟨pc, pv, pl, pw, pn⟩ := y
          dsimp only at d0
          have HP := Lib.hid (cell_below hb1 d0)
          obtain ⟨z, HZ⟩ : ∃ z, Hid (decide (xc ≤ pc) = z) := ⟨_, Lib.hid rfl⟩
          have hat : Hid (okAt l (j + 1) = !z) := Lib.hid (by
            unfold okAt
            rw [hgx.out, hQ, show j + 1 - 1 = j from rfl, hgy.out, ← HZ.out]
            simp
            by_cases h : xc ≤ pc
            · simp [h]
            · simp [h]; omega)
          have HST : Hid (z = false → Hid (∀ i, i < j + 1 + 1 → okAt l i = true)) := Lib.hid (fun hz => Lib.hid (by
            intro i hi
            by_cases e : i = j + 1
            · subst e; rw [hat.out, hz]; rfl
            · exact hok.out i (by omega)))
          have HF : Hid (z = true → q = false) := Lib.hid (fun hz => by rw [← hq.out]; exact itemsR_no hkl (by rw [hat.out, hz]; rfl))
          obtain ⟨k, hkj⟩ : ∃ k, k = j + 1 := ⟨_, rfl⟩
          have hkj0 : 0 < k := by omega
          have hkj2 : (k : Int) - 1 = (j : Int) := by omega
          rw [← hkj] at c0 c1 c2 c3 c4 HST hlt hk ⊢
          have hjn : j < n := by omega
          have hwj : IntKind.i64.wrap (j : Int) = (j : Int) := IntWalk.i64_in (j : Int) (by omega)
          clear hQ hb1 hb d0 hkj
          go_wp2_with fail
          rw [hW1.out, hgb.out]
          refine wp_region_one (fun W => Below w.heap.size w W ∧ W.heap[gb]? = some (.cells #[.int .i64 xc, .int .i64 xv, .int .i64 xl, .bool xw, .int .i64 xn] 86 (0, 0))) (fun u v => Below u.heap.size u v) (fun a i => match i with
              | 0 => (fun v _ => v = .agg #[.int .i64 xc, .int .i64 xv, .int .i64 xl, .bool xw, .int .i64 xn])
              | 1 => (fun v _ => v = .bool true)
              | 2 => (fun v _ => v = .bool false)
              | 3 => (fun v _ => v = .bool false)
              | 4 => (fun v _ => v = .int .i64 (k : Nat))
              | 5 => (fun v _ => v = .bool true)
              | 6 => (fun v _ => v = .bool true)
              | 7 => (fun v _ => v = .slice (some ⟨ab, ao, none⟩) n ca)
              | 8 => (fun v _ => v = .int .i64 (k : Nat))
              | 9 => (fun v _ => v = .int .i64 (j : Nat))
              | 10 => (fun v _ => v = .pointer (some ⟨ab, ao + j * 5, none⟩))
              | 11 => (fun v _ => v = .pointer (some ⟨ab, ao + j * 5, none⟩))
              | 12 => (fun v _ => v = .int .i64 pc)
              | 13 => (fun v _ => v = .pointer (some ⟨gb, 0, none⟩))
              | 14 => (fun v _ => v = .int .i64 xc)
              | 15 => (fun v _ => v = .bool z)
              | 16 => (fun v _ => v = .bool z)
              | 17 => (fun v _ => v = .bool z)
              | _ => (fun _ _ => True)) #[0, 1, 3, 7, 15, 31, 63, 127, 127, 383, 1023, 2047, 4095, 127, 8319, 32767, 65535, 131071] #[0, 1, 2, 4, 8, 24, 40, 64, 64, 320, 704, 1088, 2112, 64, 8256, 20544, 32840, 65544] 262143 (by kernel_rfl) 18 rfl (fun m hm => by subst hm; kernel_rfl) (by kernel_rfl) (fun w => Below.refl _ w) (fun u v w h1 h2 => below2 h1 h2) ?_ (hS0) ?_ ?_
          · intro i hi
            rcases (by omega : i = 0 ∨ i = 1 ∨ i = 2 ∨ i = 3 ∨ i = 4 ∨ i = 5 ∨ i = 6 ∨ i = 7 ∨ i = 8 ∨ i = 9 ∨ i = 10 ∨ i = 11 ∨ i = 12 ∨ i = 13 ∨ i = 14 ∨ i = 15 ∨ i = 16 ∨ i = 17) with rfl | rfl | rfl | rfl | rfl | rfl | rfl | rfl | rfl | rfl | rfl | rfl | rfl | rfl | rfl | rfl | rfl | rfl
            · exact fun v w w' h hr => by exact h
            · exact fun v w w' h hr => by exact h
            · exact fun v w w' h hr => by exact h
            · exact fun v w w' h hr => by exact h
            · exact fun v w w' h hr => by exact h
            · exact fun v w w' h hr => by exact h
            · exact fun v w w' h hr => by exact h
            · exact fun v w w' h hr => by exact h
            · exact fun v w w' h hr => by exact h
            · exact fun v w w' h hr => by exact h
            · exact fun v w w' h hr => by exact h
            · exact fun v w w' h hr => by exact h
            · exact fun v w w' h hr => by exact h
            · exact fun v w w' h hr => by exact h
            · exact fun v w w' h hr => by exact h
            · exact fun v w w' h hr => by exact h
            · exact fun v w w' h hr => by exact h
            · exact fun v w w' h hr => by exact h
          · intro i hi
            rcases (by omega : i = 0 ∨ i = 1 ∨ i = 2 ∨ i = 3 ∨ i = 4 ∨ i = 5 ∨ i = 6 ∨ i = 7 ∨ i = 8 ∨ i = 9 ∨ i = 10 ∨ i = 11 ∨ i = 12 ∨ i = 13 ∨ i = 14 ∨ i = 15 ∨ i = 16 ∨ i = 17) with rfl | rfl | rfl | rfl | rfl | rfl | rfl | rfl | rfl | rfl | rfl | rfl | rfl | rfl | rfl | rfl | rfl | rfl
            · -- 0: Op.load 86 (Operand.tmp 4)
              intro l hl vs W hS hR hp
              obtain rfl : l = [] := hl.symm.trans (by kernel_rfl)
              clear hp hl
              refine opgoal (_) (some 12) rfl rfl fun K hK => ?_
              obtain ⟨f0, f1, f2, f3, f4⟩ := it_cells hS.2
              refine Runs.mk ?_
              simp only [putAll]
              go_simp
              refine hK _ _ ?_ hS ((fun w => Below.refl _ w) W) _ rfl rfl
              first | rfl | go_simp | simp
            · -- 1: Op.call { callee := Callee.value (Operand.func 92), args := #[Operand.tmp 12], argTypes := #[86] }
              intro l hl vs W hS hR hp
              obtain rfl : l = [(0, 12)] := hl.symm.trans (by kernel_rfl)
              have p0 : vs 0 = _ := hp 0 (by decide) (by decide)
              clear hp hl
              refine opgoal (_) (some 13) rfl rfl fun K hK => ?_
              refine Runs.mk ?_
              simp only [putAll]
              go_simp
              refine (right_any ⟨xc, xv, xl, xw, xn⟩ W true HQ.out).mono ?_
              rintro e w' ⟨rfl, hb⟩
              go_simp
              exact hK _ _ rfl ⟨below2 hS.1 hb, keep_block (.of_below (S := []) hb) hS.2 (by simp)⟩ hb _ rfl rfl
            · -- 2: Op.unOp UnOp.not 4 (Operand.tmp 13)
              intro l hl vs W hS hR hp
              obtain rfl : l = [(0, 12), (1, 13)] := hl.symm.trans (by kernel_rfl)
              have p1 : vs 1 = _ := hp 1 (by decide) (by decide)
              clear hp hl
              refine opgoal (_) (some 14) rfl rfl fun K hK => ?_
              refine Runs.mk ?_
              simp only [putAll]
              go_simp
              refine hK _ _ ?_ hS ((fun w => Below.refl _ w) W) _ rfl rfl
              first | rfl | go_simp | simp
            · -- 3: Op.move (Operand.tmp 14)
              intro l hl vs W hS hR hp
              obtain rfl : l = [(0, 12), (1, 13), (2, 14)] := hl.symm.trans (by kernel_rfl)
              have p2 : vs 2 = _ := hp 2 (by decide) (by decide)
              clear hp hl
              refine opgoal (_) (some 15) rfl rfl fun K hK => ?_
              refine Runs.mk ?_
              simp only [putAll]
              go_simp
              refine hK _ _ ?_ hS ((fun w => Below.refl _ w) W) _ rfl rfl
              first | rfl | go_simp | simp
            · -- 4: Op.move (Operand.tmp 3)  [(3, 'false')]
              intro l hl vs W hS hR hp
              obtain rfl : l = [(0, 12), (1, 13), (2, 14), (3, 15)] := hl.symm.trans (by kernel_rfl)
              have p3 : vs 3 = _ := hp 3 (by decide) (by decide)
              clear hp hl
              refine opgoal (_) (some 16) rfl rfl fun K hK => ?_
              refine Runs.mk ?_
              simp only [putAll]
              go_simp
              refine hK _ _ ?_ hS ((fun w => Below.refl _ w) W) _ rfl rfl
              first | rfl | go_simp | simp
            · -- 5: Op.binOp BinOp.gtr 3 (Operand.tmp 16) (Operand.const (Value.int IntKind.i64 0)) 3  [(3, 'false')]
              intro l hl vs W hS hR hp
              obtain rfl : l = [(0, 12), (1, 13), (2, 14), (3, 15), (4, 16)] := hl.symm.trans (by kernel_rfl)
              have p3 : vs 3 = _ := hp 3 (by decide) (by decide)
              have p4 : vs 4 = _ := hp 4 (by decide) (by decide)
              clear hp hl
              refine opgoal (_) (some 17) rfl rfl fun K hK => ?_
              refine Runs.mk ?_
              simp only [putAll]
              go_simp
              refine hK _ _ ?_ hS ((fun w => Below.refl _ w) W) _ rfl rfl
              first | rfl | go_simp | simp
            · -- 6: Op.move (Operand.tmp 17)  [(3, 'false')]
              intro l hl vs W hS hR hp
              obtain rfl : l = [(0, 12), (1, 13), (2, 14), (3, 15), (4, 16), (5, 17)] := hl.symm.trans (by kernel_rfl)
              have p3 : vs 3 = _ := hp 3 (by decide) (by decide)
              have p5 : vs 5 = _ := hp 5 (by decide) (by decide)
              clear hp hl
              refine opgoal (_) (some 18) rfl rfl fun K hK => ?_
              refine Runs.mk ?_
              simp only [putAll]
              go_simp
              refine hK _ _ ?_ hS ((fun w => Below.refl _ w) W) _ rfl rfl
              first | rfl | go_simp | simp
            · -- 7: Op.move (Operand.tmp 0)  [(6, 'true')]
              intro l hl vs W hS hR hp
              obtain rfl : l = [(0, 12), (1, 13), (2, 14), (3, 15), (4, 16), (5, 17), (6, 18)] := hl.symm.trans (by kernel_rfl)
              have p6 : vs 6 = _ := hp 6 (by decide) (by decide)
              clear hp hl
              refine opgoal (_) (some 19) rfl rfl fun K hK => ?_
              refine Runs.mk ?_
              simp only [putAll]
              go_simp
              refine hK _ _ ?_ hS ((fun w => Below.refl _ w) W) _ rfl rfl
              first | rfl | go_simp | simp
            · -- 8: Op.move (Operand.tmp 3)  [(6, 'true')]
              intro l hl vs W hS hR hp
              obtain rfl : l = [(0, 12), (1, 13), (2, 14), (3, 15), (4, 16), (5, 17), (6, 18)] := hl.symm.trans (by kernel_rfl)
              have p6 : vs 6 = _ := hp 6 (by decide) (by decide)
              clear hp hl
              refine opgoal (_) (some 20) rfl rfl fun K hK => ?_
              refine Runs.mk ?_
              simp only [putAll]
              go_simp
              refine hK _ _ ?_ hS ((fun w => Below.refl _ w) W) _ rfl rfl
              first | rfl | go_simp | simp
            · -- 9: Op.binOp BinOp.sub 3 (Operand.tmp 20) (Operand.const (Value.int IntKind.i64 1)) 3  [(6, 'true')]
              intro l hl vs W hS hR hp
              obtain rfl : l = [(0, 12), (1, 13), (2, 14), (3, 15), (4, 16), (5, 17), (6, 18), (8, 20)] := hl.symm.trans (by kernel_rfl)
              have p6 : vs 6 = _ := hp 6 (by decide) (by decide)
              have p8 : vs 8 = _ := hp 8 (by decide) (by decide)
              clear hp hl
              refine opgoal (_) (some 21) rfl rfl fun K hK => ?_
              refine Runs.mk ?_
              simp only [putAll]
              go_simp
              refine hK _ _ ?_ hS ((fun w => Below.refl _ w) W) _ rfl rfl
              first | rfl | go_simp | simp
            · -- 10: Op.indexAddr 54 (Operand.tmp 19) (Operand.tmp 21)  [(6, 'true')]
              intro l hl vs W hS hR hp
              obtain rfl : l = [(0, 12), (1, 13), (2, 14), (3, 15), (4, 16), (5, 17), (6, 18), (7, 19), (8, 20), (9, 21)] := hl.symm.trans (by kernel_rfl)
              have p6 : vs 6 = _ := hp 6 (by decide) (by decide)
              have p7 : vs 7 = _ := hp 7 (by decide) (by decide)
              have p9 : vs 9 = _ := hp 9 (by decide) (by decide)
              clear hp hl
              refine opgoal (_) (some 22) rfl rfl fun K hK => ?_
              refine Runs.mk ?_
              simp only [putAll]
              go_simp
              refine hK _ _ ?_ hS ((fun w => Below.refl _ w) W) _ rfl rfl
              first | rfl | go_simp | simp
            · -- 11: Op.fieldAddr 86 (Operand.tmp 22) 0  [(6, 'true')]
              intro l hl vs W hS hR hp
              obtain rfl : l = [(0, 12), (1, 13), (2, 14), (3, 15), (4, 16), (5, 17), (6, 18), (7, 19), (8, 20), (9, 21), (10, 22)] := hl.symm.trans (by kernel_rfl)
              have p6 : vs 6 = _ := hp 6 (by decide) (by decide)
              have p10 : vs 10 = _ := hp 10 (by decide) (by decide)
              clear hp hl
              refine opgoal (_) (some 23) rfl rfl fun K hK => ?_
              refine Runs.mk ?_
              simp only [putAll]
              go_simp
              refine hK _ _ ?_ hS ((fun w => Below.refl _ w) W) _ rfl rfl
              first | rfl | go_simp | simp
            · -- 12: Op.load 3 (Operand.tmp 23)  [(6, 'true')]
              intro l hl vs W hS hR hp
              obtain rfl : l = [(0, 12), (1, 13), (2, 14), (3, 15), (4, 16), (5, 17), (6, 18), (7, 19), (8, 20), (9, 21), (10, 22), (11, 23)] := hl.symm.trans (by kernel_rfl)
              have p6 : vs 6 = _ := hp 6 (by decide) (by decide)
              have p11 : vs 11 = _ := hp 11 (by decide) (by decide)
              clear hp hl
              refine opgoal (_) (some 24) rfl rfl fun K hK => ?_
              have fp := cell_below (below_of_drew hR) HP.out
              refine Runs.mk ?_
              simp only [putAll]
              go_simp
              refine hK _ _ ?_ hS ((fun w => Below.refl _ w) W) _ rfl rfl
              first | rfl | go_simp | simp
            · -- 13: Op.fieldAddr 86 (Operand.tmp 4) 0  [(6, 'true')]
              intro l hl vs W hS hR hp
              obtain rfl : l = [(0, 12), (1, 13), (2, 14), (3, 15), (4, 16), (5, 17), (6, 18)] := hl.symm.trans (by kernel_rfl)
              have p6 : vs 6 = _ := hp 6 (by decide) (by decide)
              clear hp hl
              refine opgoal (_) (some 25) rfl rfl fun K hK => ?_
              refine Runs.mk ?_
              simp only [putAll]
              go_simp
              refine hK _ _ ?_ hS ((fun w => Below.refl _ w) W) _ rfl rfl
              first | rfl | go_simp | simp
            · -- 14: Op.load 3 (Operand.tmp 25)  [(6, 'true')]
              intro l hl vs W hS hR hp
              obtain rfl : l = [(0, 12), (1, 13), (2, 14), (3, 15), (4, 16), (5, 17), (6, 18), (13, 25)] := hl.symm.trans (by kernel_rfl)
              have p6 : vs 6 = _ := hp 6 (by decide) (by decide)
              have p13 : vs 13 = _ := hp 13 (by decide) (by decide)
              clear hp hl
              refine opgoal (_) (some 26) rfl rfl fun K hK => ?_
              obtain ⟨f0, f1, f2, f3, f4⟩ := it_cells hS.2
              refine Runs.mk ?_
              simp only [putAll]
              go_simp
              refine hK _ _ ?_ hS ((fun w => Below.refl _ w) W) _ rfl rfl
              first | rfl | go_simp | simp
            · -- 15: Op.binOp BinOp.geq 3 (Operand.tmp 24) (Operand.tmp 26) 3  [(6, 'true')]
              intro l hl vs W hS hR hp
              obtain rfl : l = [(0, 12), (1, 13), (2, 14), (3, 15), (4, 16), (5, 17), (6, 18), (7, 19), (8, 20), (9, 21), (10, 22), (11, 23), (12, 24), (13, 25), (14, 26)] := hl.symm.trans (by kernel_rfl)
              have p6 : vs 6 = _ := hp 6 (by decide) (by decide)
              have p12 : vs 12 = _ := hp 12 (by decide) (by decide)
              have p14 : vs 14 = _ := hp 14 (by decide) (by decide)
              clear hp hl
              refine opgoal (_) (some 27) rfl rfl fun K hK => ?_
              have hz1 := HZ.out
              refine Runs.mk ?_
              simp only [putAll]
              go_simp
              refine hK _ _ ?_ hS ((fun w => Below.refl _ w) W) _ rfl rfl
              first | rfl | go_simp | simp
            · -- 16: Op.pick (Operand.tmp 18) (Operand.tmp 27) (Operand.const (Value.bool false))  [(3, 'false')]
              intro l hl vs W hS hR hp
              obtain rfl : l = [(0, 12), (1, 13), (2, 14), (3, 15), (4, 16), (5, 17), (6, 18), (7, 19), (8, 20), (9, 21), (10, 22), (11, 23), (12, 24), (13, 25), (14, 26), (15, 27)] := hl.symm.trans (by kernel_rfl)
              have p3 : vs 3 = _ := hp 3 (by decide) (by decide)
              have p6 : vs 6 = _ := hp 6 (by decide) (by decide)
              have p15 : vs 15 = _ := hp 15 (by decide) (by decide)
              clear hp hl
              refine opgoal (_) (some 28) rfl rfl fun K hK => ?_
              refine Runs.mk ?_
              simp only [putAll]
              go_simp
              refine hK _ _ ?_ hS ((fun w => Below.refl _ w) W) _ rfl rfl
              first | rfl | go_simp | simp
            · -- 17: Op.pick (Operand.tmp 15) (Operand.const (Value.bool true)) (Operand.tmp 28)
              intro l hl vs W hS hR hp
              obtain rfl : l = [(0, 12), (1, 13), (2, 14), (3, 15), (4, 16), (5, 17), (6, 18), (7, 19), (8, 20), (9, 21), (10, 22), (11, 23), (12, 24), (13, 25), (14, 26), (15, 27), (16, 28)] := hl.symm.trans (by kernel_rfl)
              have p3 : vs 3 = _ := hp 3 (by decide) (by decide)
              have p16 : vs 16 = _ := hp 16 (by decide) (by decide)
              clear hp hl
              refine opgoal (_) (some 29) rfl rfl fun K hK => ?_
              refine Runs.mk ?_
              simp only [putAll]
              go_simp
              refine hK _ _ ?_ hS ((fun w => Below.refl _ w) W) _ rfl rfl
              first | rfl | go_simp | simp
          · intro l hl vs W hS hR hp
            obtain rfl : l = [(0, 12), (1, 13), (2, 14), (3, 15), (4, 16), (5, 17), (6, 18), (7, 19), (8, 20), (9, 21), (10, 22), (11, 23), (12, 24), (13, 25), (14, 26), (15, 27), (16, 28), (17, 29)] := hl.symm.trans (by kernel_rfl)
            have p0 : vs 0 = _ := hp 0 (by decide) (by decide)
            have p1 : vs 1 = _ := hp 1 (by decide) (by decide)
            have p2 : vs 2 = _ := hp 2 (by decide) (by decide)
            have p3 : vs 3 = _ := hp 3 (by decide) (by decide)
            have p4 : vs 4 = _ := hp 4 (by decide) (by decide)
            have p5 : vs 5 = _ := hp 5 (by decide) (by decide)
            have p6 : vs 6 = _ := hp 6 (by decide) (by decide)
            have p7 : vs 7 = _ := hp 7 (by decide) (by decide)
            have p8 : vs 8 = _ := hp 8 (by decide) (by decide)
            have p9 : vs 9 = _ := hp 9 (by decide) (by decide)
            have p10 : vs 10 = _ := hp 10 (by decide) (by decide)
            have p11 : vs 11 = _ := hp 11 (by decide) (by decide)
            have p12 : vs 12 = _ := hp 12 (by decide) (by decide)
            have p13 : vs 13 = _ := hp 13 (by decide) (by decide)
            have p14 : vs 14 = _ := hp 14 (by decide) (by decide)
            have p15 : vs 15 = _ := hp 15 (by decide) (by decide)
            have p16 : vs 16 = _ := hp 16 (by decide) (by decide)
            have p17 : vs 17 = _ := hp 17 (by decide) (by decide)
            clear hp hl
            simp only [putAll_mk, setAll, List.setIfInBounds_toArray, List.set_cons_succ, List.set_cons_zero, p0, p1, p2, p3, p4, p5, p6, p7, p8, p9, p10, p11, p12, p13, p14, p15, p16, p17]
            have HS := Lib.hid hS.1
            clear hS hR hS0
            cases z
            case false =>
              go_wp2
              go_roundw
              case rel => exact ⟨k + 1, by omega, by go_num, HS.out, (HST.out (by first | rfl | trivial))⟩
              case measure => simp [intOf]; omega
            case true =>
              go_wp2
              go_ret
              exact ⟨retbf (HF.out (by first | rfl | trivial)), HS.out⟩
    · have e : Hid (q = decide (0 < n)) := Lib.hid (by rw [← hq.out, itemsR_end (fun j hj => hok.out j (by have := HN.out; omega)), HN.out])
      by_cases h0 : 0 < n
      · have e1 : Hid (q = true) := Lib.hid (by rw [e.out]; simpa using h0)
        have h0' : (0 : Int) < (n : Int) := by omega
        go_wp2
        go_ret
        exact ⟨retb e1.out, hb⟩
      · have e1 : Hid (q = false) := Lib.hid (by rw [e.out]; simpa using h0)
        have h0' : ¬ (0 : Int) < (n : Int) := by omega
        go_wp2
        go_ret
        exact ⟨retbf e1.out, hb⟩
end Go.Proofs.Ytfpocddpnoighaa.It

/- item: the document's RightItems; nodes; the document's Order. -/
namespace Go.Proofs.Ytfpocddpnoighaa.It
open Go.RowKit Go.Proofs.Ytfpocddpnoighaa.L Go.Proofs.Ytfpocddpnoighaa.O Go.Proofs.Ytfpocddpnoighaa.A Go.Proofs.Ytfpocddpnoighaa.R Go.Proofs.Ytfpocddpnoighaa.S Go.Proofs.Ytfpocddpnoighaa.T Go.Proofs.Ytfpocddpnoighaa.E Go.Proofs.Ytfpocddpnoighaa.Wr Go.Proofs.Ytfpocddpnoighaa.F
set_option linter.unusedVariables false
set_option linter.unusedSimpArgs false

/-! ### the document's order -/
set_option maxHeartbeats 4000000 in
set_option maxRecDepth 100000 in
theorem order_ref (a1 a2 a3 b1 b2 b3 : Int) (w : World) (q : Int) (hq' : ordV a1 a2 a3 b1 b2 b3 = q) : Calls Try.prog 33 #[.agg #[.int .i64 a1, .int .i64 a2, .int .i64 a3], .agg #[.int .i64 b1, .int .i64 b2, .int .i64 b3]] w fun e w' => e = .returned (.int .i64 q) ∧ Below w.heap.size w w' := by
  have HQ := Lib.hid hq'
  clear hq'
  obtain ⟨g, hg⟩ : ∃ g, Hid (w.heap.size + 1 + 1 = g) := ⟨_, Lib.hid rfl⟩
  obtain ⟨W0, hW0⟩ : ∃ W0, Hid ((((w.alloc (.cells #[.int .i64 a1, .int .i64 a2, .int .i64 a3] 51)).alloc (.cells #[.int .i64 b1, .int .i64 b2, .int .i64 b3] 51)).alloc (.cells #[.int .i64 a1, .int .i64 a2, .int .i64 a3] 3)).alloc (.cells #[.int .i64 b1, .int .i64 b2, .int .i64 b3] 3) = W0) := ⟨_, Lib.hid rfl⟩
  have hb0 : Hid (Below w.heap.size w W0) := Lib.hid (by rw [← hW0.out]; exact below2 (below2 (below2 (below_alloc _ _) (below_alloc _ _)) (below_alloc _ _)) (below_alloc _ _))
  have hA : Hid (W0.heap[g]? = some (.cells #[.int .i64 a1, .int .i64 a2, .int .i64 a3] 3 (0, 0)) ∧ W0.heap[g + 1]? = some (.cells #[.int .i64 b1, .int .i64 b2, .int .i64 b3] 3 (0, 0))) := Lib.hid (by
    rw [← hW0.out, ← hg.out]
    constructor
    · rw [heap_alloc_old _ _ (by simp)]
      have := heap_alloc_new ((w.alloc (.cells #[.int .i64 a1, .int .i64 a2, .int .i64 a3] 51)).alloc (.cells #[.int .i64 b1, .int .i64 b2, .int .i64 b3] 51)) (.cells #[.int .i64 a1, .int .i64 a2, .int .i64 a3] 3)
      rw [World.size_alloc, World.size_alloc] at this; exact this
    · have := heap_alloc_new (((w.alloc (.cells #[.int .i64 a1, .int .i64 a2, .int .i64 a3] 51)).alloc (.cells #[.int .i64 b1, .int .i64 b2, .int .i64 b3] 51)).alloc (.cells #[.int .i64 a1, .int .i64 a2, .int .i64 a3] 3)) (.cells #[.int .i64 b1, .int .i64 b2, .int .i64 b3] 3)
      rw [World.size_alloc, World.size_alloc, World.size_alloc] at this; exact this)
  have hspec := Lib.hid (ord_spec a1 a2 a3 b1 b2 b3)
  rw [HQ.out] at hspec
  go_enter Try.func33, Try.ntmps33
  go_wp2_with fail
  rw [hW0.out, hg.out]
  go_loopw [7] (fun i wr => ∃ k : Nat, k ≤ 3 ∧ i = .int .i64 k ∧ Below W0.heap.size W0 wr ∧ Hid ((0 < k → a1 = b1) ∧ (1 < k → a2 = b2) ∧ (2 < k → a3 = b3))) (fun i _ => 3 - (intOf i).toNat)
  case atStart => exact ⟨0, by omega, rfl, Below.refl _ _, Lib.hid ⟨fun h => absurd h (by omega), fun h => absurd h (by omega), fun h => absurd h (by omega)⟩⟩
  case round =>
    obtain ⟨k, hk, rfl, hb, heq⟩ := hrel
    by_cases hk3 : k < 3
    · have hx : ∃ x y : Int, wr.cell? ⟨g, k, none⟩ = some (.int .i64 x) ∧ wr.cell? ⟨g + 1, k, none⟩ = some (.int .i64 y) ∧ (x < y → q = -1) ∧ (y < x → q = 1) ∧ (x = y → ((0 < k + 1 → a1 = b1) ∧ (1 < k + 1 → a2 = b2) ∧ (2 < k + 1 → a3 = b3))) := by
        obtain ⟨u0, u1, u2⟩ := td_cells (keep_block (.of_below (S := []) hb) hA.out.1 (by simp))
        obtain ⟨v0, v1, v2⟩ := td_cells (keep_block (.of_below (S := []) hb) hA.out.2 (by simp))
        have hs := hspec.out
        have he := heq.out
        rcases (by omega : k = 0 ∨ k = 1 ∨ k = 2) with rfl | rfl | rfl
        · exact ⟨a1, b1, u0, v0, by omega, by omega, by omega⟩
        · exact ⟨a2, b2, u1, v1, by omega, by omega, by omega⟩
        · exact ⟨a3, b3, u2, v2, by omega, by omega, by omega⟩
      obtain ⟨x, y, cx, cy, h1, h2, h3⟩ := hx
      have H1 := Lib.hid h1
      have H2 := Lib.hid h2
      have H3 := Lib.hid h3
      clear h1 h2 h3
      by_cases hxy : x < y
      · have e := Lib.hid (H1.out hxy)
        have d1 : decide (x < y) = true := by simpa using hxy
        clear hxy
        go_wp2
        go_quiet (fail)
        go_wp2
        go_ret
        exact ⟨reti e.out.symm, below2 hb0.out (below2 hb (below_drewN _ _))⟩
      · have d1 : decide (x < y) = false := by simpa using hxy
        by_cases hyx : y < x
        · have e := Lib.hid (H2.out hyx)
          have d2 : decide (y < x) = true := by simpa using hyx
          clear hxy hyx
          go_wp2
          go_quiet (fail)
          go_wp2
          obtain ⟨Wq, hWq⟩ : ∃ Wq, Hid (wr.drewN nq = Wq) := ⟨_, Lib.hid rfl⟩
          rw [hWq.out]
          have hbq : Below wr.heap.size wr Wq := by rw [← hWq.out]; exact below_drewN _ _
          have cx2 := cell_below hbq cx
          have cy2 := cell_below hbq cy
          have HBQ := Lib.hid (below2 hb hbq)
          clear cx cy hbq
          go_quiet (fail)
          go_wp2
          go_ret
          exact ⟨reti e.out.symm, below2 hb0.out (below2 HBQ.out (below_drewN _ _))⟩
        · have e := Lib.hid (H3.out (by omega))
          have d2 : decide (y < x) = false := by simpa using hyx
          clear hxy hyx
          go_wp2
          go_quiet (fail)
          go_wp2
          obtain ⟨Wq, hWq⟩ : ∃ Wq, Hid (wr.drewN nq = Wq) := ⟨_, Lib.hid rfl⟩
          rw [hWq.out]
          have hbq : Below wr.heap.size wr Wq := by rw [← hWq.out]; exact below_drewN _ _
          have cx2 := cell_below hbq cx
          have cy2 := cell_below hbq cy
          have HBQ := Lib.hid (below2 hb hbq)
          clear cx cy hbq
          go_quiet (fail)
          go_wp2
          go_roundw
          case rel => exact ⟨k + 1, by omega, by go_num, below2 HBQ.out (below_drewN _ _), e⟩
          case measure => simp [intOf]; omega
    · have e : Hid (q = 0) := Lib.hid (by have h1 := hspec.out; have h2 := heq.out; omega)
      have hk3' : k = 3 := by omega
      subst hk3'
      go_wp2
      go_ret
      exact ⟨reti e.out.symm, below2 hb0.out hb⟩
end Go.Proofs.Ytfpocddpnoighaa.It

/- item: the document's RightItems; nodes. -/
namespace Go.Proofs.Ytfpocddpnoighaa.It
open Go.RowKit Go.Proofs.Ytfpocddpnoighaa.L Go.Proofs.Ytfpocddpnoighaa.O Go.Proofs.Ytfpocddpnoighaa.A Go.Proofs.Ytfpocddpnoighaa.R Go.Proofs.Ytfpocddpnoighaa.S Go.Proofs.Ytfpocddpnoighaa.T Go.Proofs.Ytfpocddpnoighaa.E Go.Proofs.Ytfpocddpnoighaa.Wr Go.Proofs.Ytfpocddpnoighaa.F
set_option linter.unusedVariables false
set_option linter.unusedSimpArgs false

theorem itemR_iff (x : Im) : itemR x = true ↔ (0 ≤ x.c ∧ x.c ≤ 15 ∧ 0 ≤ x.v ∧ x.v ≤ 1099511627775 ∧ (x.w = true ∨ x.n = 0)) := by
  unfold itemR inB outN
  simp
  constructor
  · rintro ⟨⟨h1, h2⟩, ⟨h3, h4⟩, h5⟩; exact ⟨by omega, by omega, by omega, by omega, h5⟩
  · rintro ⟨h1, h2, h3, h4, h5⟩; exact ⟨⟨by omega, by omega⟩, ⟨by omega, by omega⟩, h5⟩
set_option maxHeartbeats 8000000 in
set_option maxRecDepth 100000 in
theorem rightitems_ref (A : Option Addr) (n ca : Nat) (l : List Im) (w : World) (h : Ims w A n l) (q : Bool) (hq' : itemsR l = q) : Calls Try.prog 37 #[.slice A n ca] w fun e w' => e = .returned (.bool q) ∧ Below w.heap.size w w' := by
  have hn9 := h.rd.2.1
  have H := Lib.hid h
  have HN := Lib.hid h.len
  have hq := Lib.hid hq'
  clear h hq'
  go_enter Try.func37, Try.ntmps37
  go_wp2
  go_loopw [3] (fun i wr => ∃ k : Nat, k ≤ n ∧ i = .int .i64 k ∧ Below w.heap.size w wr ∧ Hid (∀ j, j < k → okAt l j = true)) (fun i _ => n - (intOf i).toNat)
  case atStart => exact ⟨0, by omega, rfl, Below.refl _ _, Lib.hid fun j h => absurd h (by omega)⟩
  case round =>
    obtain ⟨k, hk, rfl, hb, hok⟩ := hrel
    by_cases hlt : k < n
    · have hkl : k < l.length := by have := HN.out; omega
      obtain ⟨x, hx⟩ : ∃ x, Hid (l[k] = x) := ⟨_, Lib.hid rfl⟩
      obtain ⟨ab, ao, hAe, c0, c1, c2, c3, c4⟩ := (H.out.below hb).at k hlt hkl x hx.out
      subst hAe
      have hgx : Hid (l.getD k im0 = x) := Lib.hid (by rw [List.getD_eq_getElem?_getD, List.getElem?_eq_getElem hkl, hx.out]; rfl)
      have hri := Lib.hid (itemR_iff x)
      have hno : Hid (itemR x = false → q = false) := Lib.hid (fun hr => by rw [← hq.out]; exact itemsR_no hkl (by unfold okAt; rw [hgx.out, hr]; rfl))
      obtain ⟨xc, xv, xl, xw, xn⟩ := x
      dsimp only at c0 c1 c2 c3 c4 hri
      have hb1 := Lib.hid (below2 hb (below_alloc wr (.cells #[.int .i64 xc, .int .i64 xv, .int .i64 xl, .bool xw, .int .i64 xn] 86)))
      by_cases p1 : 0 ≤ xc
      case neg =>
        have e : Hid (q = false) := Lib.hid (hno.out (by rw [Bool.eq_false_iff]; intro ht; have := hri.out.1 ht; omega))
        go_wp2
        go_ret
        exact ⟨retbf e.out, hb1.out⟩
      by_cases p2 : xc ≤ 15
      case neg =>
        have e : Hid (q = false) := Lib.hid (hno.out (by rw [Bool.eq_false_iff]; intro ht; have := hri.out.1 ht; omega))
        go_wp2
        go_ret
        exact ⟨retbf e.out, hb1.out⟩
      by_cases p3 : 0 ≤ xv
      case neg =>
        have e : Hid (q = false) := Lib.hid (hno.out (by rw [Bool.eq_false_iff]; intro ht; have := hri.out.1 ht; omega))
        go_wp2
        go_ret
        exact ⟨retbf e.out, hb1.out⟩
      by_cases p4 : 1099511627776 ≤ xv
      case pos =>
        have e : Hid (q = false) := Lib.hid (hno.out (by rw [Bool.eq_false_iff]; intro ht; have := hri.out.1 ht; omega))
        go_wp2
        go_ret
        exact ⟨retbf e.out, hb1.out⟩
      by_cases p5 : xw = true ∨ xn = 0
      case neg =>
        obtain ⟨hw1, hn1⟩ := not_or.1 p5
        obtain rfl : xw = false := by simpa using hw1
        have e : Hid (q = false) := Lib.hid (hno.out (by rw [Bool.eq_false_iff]; intro ht; have := hri.out.1 ht; simp at this; omega))
        have hn2 : (xn != 0) = true := by simpa using hn1
        clear p5 hw1 hn1
        go_wp2
        go_ret
        exact ⟨retbf e.out, hb1.out⟩
      have hRt : Hid (itemR ⟨xc, xv, xl, xw, xn⟩ = true) := Lib.hid (hri.out.2 ⟨p1, p2, p3, by omega, p5⟩)
      cases xw
      case false =>
        have hn0 : (xn != 0) = false := by rcases p5 with h | h <;> simp_all
        clear p5
        cases k with
        | zero =>
          have HST : Hid (∀ j, j < 1 → okAt l j = true) := Lib.hid (by
            intro j hj
            obtain rfl : j = 0 := by omega
            unfold okAt
            rw [hgx.out, hRt.out]
            rfl)
          simp only [Nat.zero_mul, Nat.add_zero] at c0 c1 c2 c3 c4
          rw [show ((0 : Nat) : Int) = 0 from rfl]
          clear hb
          go_wp2_with fail
          go_quiet (fail)
          go_wp2
          go_roundw
          case rel => exact ⟨1, by omega, rfl, (below2 hb1.out (below_drewN _ _)), HST⟩
          case measure => simp [intOf]; omega
        | succ j =>
          have hjl : j < l.length := by omega
          obtain ⟨y, hy⟩ : ∃ y, Hid (l[j] = y) := ⟨_, Lib.hid rfl⟩
          obtain ⟨ab2, ao2, hAe2, d0, _⟩ := (H.out.below hb).at j (by omega) hjl y hy.out
          injection hAe2 with hAe2
          injection hAe2 with e1 e2 _
          subst e1; subst e2
          have hgy : Hid (l.getD j im0 = y) := Lib.hid (by rw [List.getD_eq_getElem?_getD, List.getElem?_eq_getElem hjl, hy.out]; rfl)
          obtain ⟨pc, pv, pl, pw, pn⟩ := y
          dsimp only at d0
          have hat : Hid (okAt l (j + 1) = decide (pc < xc)) := Lib.hid (by
            unfold okAt
            rw [hgx.out, hRt.out, show j + 1 - 1 = j from rfl, hgy.out]
            simp)
          have HST : Hid (pc < xc → Hid (∀ i, i < j + 1 + 1 → okAt l i = true)) := Lib.hid (fun hz => Lib.hid (by
            intro i hi
            by_cases e : i = j + 1
            · subst e; rw [hat.out]; simpa using hz
            · exact hok.out i (by omega)))
          have HF : Hid (xc ≤ pc → q = false) := Lib.hid (fun hz => by rw [← hq.out]; exact itemsR_no hkl (by rw [hat.out]; simp; omega))
          obtain ⟨k, hkj⟩ : ∃ k, k = j + 1 := ⟨_, rfl⟩
          have hkj0 : 0 < k := by omega
          have hkj2 : (k : Int) - 1 = (j : Int) := by omega
          rw [← hkj] at c0 c1 c2 c3 c4 HST hlt hk ⊢
          have hjn : j < n := by omega
          have hwj : IntKind.i64.wrap (j : Int) = (j : Int) := IntWalk.i64_in (j : Int) (by omega)
          have hd0 := (cell_below (below_alloc wr (.cells #[.int .i64 xc, .int .i64 xv, .int .i64 xl, .bool false, .int .i64 xn] 86)) d0)
          by_cases hz : xc ≤ pc
          case pos =>
            have e : Hid (q = false) := Lib.hid (HF.out hz)
            clear hb hkj
            go_wp2_with fail
            go_quiet (fail)
            go_wp2
            go_ret
            exact ⟨retbf e.out, (below2 hb1.out (below_drewN _ _))⟩
          case neg =>
            have e := HST.out (by omega)
            clear hb hkj
            go_wp2_with fail
            go_quiet (fail)
            go_wp2
            go_roundw
            case rel => exact ⟨k + 1, by omega, by simp, (below2 hb1.out (below_drewN _ _)), e⟩
            case measure => simp [intOf]; omega
      case true =>
        clear p5
        cases k with
        | zero =>
          have HST : Hid (∀ j, j < 1 → okAt l j = true) := Lib.hid (by
            intro j hj
            obtain rfl : j = 0 := by omega
            unfold okAt
            rw [hgx.out, hRt.out]
            rfl)
          simp only [Nat.zero_mul, Nat.add_zero] at c0 c1 c2 c3 c4
          rw [show ((0 : Nat) : Int) = 0 from rfl]
          clear hb
          go_wp2_with fail
          go_quiet (fail)
          go_wp2
          go_roundw
          case rel => exact ⟨1, by omega, rfl, (below2 hb1.out (below_drewN _ _)), HST⟩
          case measure => simp [intOf]; omega
        | succ j =>
          have hjl : j < l.length := by omega
          obtain ⟨y, hy⟩ : ∃ y, Hid (l[j] = y) := ⟨_, Lib.hid rfl⟩
          obtain ⟨ab2, ao2, hAe2, d0, _⟩ := (H.out.below hb).at j (by omega) hjl y hy.out
          injection hAe2 with hAe2
          injection hAe2 with e1 e2 _
          subst e1; subst e2
          have hgy : Hid (l.getD j im0 = y) := Lib.hid (by rw [List.getD_eq_getElem?_getD, List.getElem?_eq_getElem hjl, hy.out]; rfl)
          obtain ⟨pc, pv, pl, pw, pn⟩ := y
          dsimp only at d0
          have hat : Hid (okAt l (j + 1) = decide (pc < xc)) := Lib.hid (by
            unfold okAt
            rw [hgx.out, hRt.out, show j + 1 - 1 = j from rfl, hgy.out]
            simp)
          have HST : Hid (pc < xc → Hid (∀ i, i < j + 1 + 1 → okAt l i = true)) := Lib.hid (fun hz => Lib.hid (by
            intro i hi
            by_cases e : i = j + 1
            · subst e; rw [hat.out]; simpa using hz
            · exact hok.out i (by omega)))
          have HF : Hid (xc ≤ pc → q = false) := Lib.hid (fun hz => by rw [← hq.out]; exact itemsR_no hkl (by rw [hat.out]; simp; omega))
          obtain ⟨k, hkj⟩ : ∃ k, k = j + 1 := ⟨_, rfl⟩
          have hkj0 : 0 < k := by omega
          have hkj2 : (k : Int) - 1 = (j : Int) := by omega
          rw [← hkj] at c0 c1 c2 c3 c4 HST hlt hk ⊢
          have hjn : j < n := by omega
          have hwj : IntKind.i64.wrap (j : Int) = (j : Int) := IntWalk.i64_in (j : Int) (by omega)
          have hd0 := (cell_below (below_alloc wr (.cells #[.int .i64 xc, .int .i64 xv, .int .i64 xl, .bool true, .int .i64 xn] 86)) d0)
          by_cases hz : xc ≤ pc
          case pos =>
            have e : Hid (q = false) := Lib.hid (HF.out hz)
            clear hb hkj
            go_wp2_with fail
            go_quiet (fail)
            go_wp2
            go_ret
            exact ⟨retbf e.out, (below2 hb1.out (below_drewN _ _))⟩
          case neg =>
            have e := HST.out (by omega)
            clear hb hkj
            go_wp2_with fail
            go_quiet (fail)
            go_wp2
            go_roundw
            case rel => exact ⟨k + 1, by omega, by simp, (below2 hb1.out (below_drewN _ _)), e⟩
            case measure => simp [intOf]; omega
    · have e : Hid (q = decide (0 < n)) := Lib.hid (by rw [← hq.out, itemsR_end (fun j hj => hok.out j (by have := HN.out; omega)), HN.out])
      by_cases h0 : 0 < n
      · have e1 : Hid (q = true) := Lib.hid (by rw [e.out]; simpa using h0)
        have h0' : (0 : Int) < (n : Int) := by omega
        go_wp2
        go_ret
        exact ⟨retb e1.out, hb⟩
      · have e1 : Hid (q = false) := Lib.hid (by rw [e.out]; simpa using h0)
        have h0' : ¬ (0 : Int) < (n : Int) := by omega
        go_wp2
        go_ret
        exact ⟨retbf e1.out, hb⟩
end Go.Proofs.Ytfpocddpnoighaa.It

/- item: are nodes right? -/
namespace Go.Proofs.Ytfpocddpnoighaa.It
open Go.RowKit Go.Proofs.Ytfpocddpnoighaa.L Go.Proofs.Ytfpocddpnoighaa.O Go.Proofs.Ytfpocddpnoighaa.A Go.Proofs.Ytfpocddpnoighaa.R Go.Proofs.Ytfpocddpnoighaa.S Go.Proofs.Ytfpocddpnoighaa.T Go.Proofs.Ytfpocddpnoighaa.E Go.Proofs.Ytfpocddpnoighaa.Wr Go.Proofs.Ytfpocddpnoighaa.F
set_option linter.unusedVariables false
set_option linter.unusedSimpArgs false

def nodeAt (xs : List Int) (i : Nat) : Bool := i == 0 || decide (xs.getD (i - 1) 0 < xs.getD i 0)
def nodesR (xs : List Int) : Bool := (List.range xs.length).all (nodeAt xs) && inB 1 16 xs
theorem nodes_bad {xs : List Int} {k : Nat} (hk : k < xs.length) (h : nodeAt xs k = false) : nodesR xs = false := by
  have : (List.range xs.length).all (nodeAt xs) = false := by
    rw [List.all_eq_false]
    exact ⟨k, List.mem_range.2 hk, by simp [h]⟩
  simp [nodesR, this]
theorem nodes_out {xs : List Int} {k : Nat} (hk : k < xs.length) (h : outN 1 16 xs[k] = true) : nodesR xs = false := by
  have : xs.any (outN 1 16) = true := List.any_eq_true.2 ⟨xs[k], List.getElem_mem hk, h⟩
  simp [nodesR, inB, this]
theorem nodes_end {xs : List Int} (h : ∀ j, j < xs.length → nodeAt xs j = true) : nodesR xs = inB 1 16 xs := by
  have : (List.range xs.length).all (nodeAt xs) = true := by
    rw [List.all_eq_true]
    intro j hj
    exact h j (List.mem_range.1 hj)
  simp [nodesR, this]
theorem nodes_in {xs : List Int} (h : ∀ j (hj : j < xs.length), outN 1 16 xs[j] = false) : inB 1 16 xs = true := by
  have : xs.any (outN 1 16) = false := by
    rw [List.any_eq_false]
    intro x hx
    obtain ⟨j, hj, rfl⟩ := List.getElem_of_mem hx
    simp [h j hj]
  simp [inB, this]
theorem getD_at {xs : List Int} {k : Nat} {x : Int} (hk : k < xs.length) (hx : xs[k] = x) : xs.getD k 0 = x := by
  rw [List.getD_eq_getElem?_getD, List.getElem?_eq_getElem hk, hx]; rfl
theorem rd_at {w : World} {ab ao n : Nat} {xs : List Int} (hc : ∀ j, j < n → w.cell? ⟨ab, ao + j, none⟩ = (xs.map (Value.int .i64))[j]?) {k : Nat} (hk : k < n) (hkl : k < xs.length) {x : Int} (hx : xs[k] = x) : w.cell? ⟨ab, ao + k, none⟩ = some (.int .i64 x) := by
  rw [hc k hk, List.getElem?_map, List.getElem?_eq_getElem hkl, hx]; rfl
set_option maxHeartbeats 4000000 in
set_option maxRecDepth 100000 in
theorem rightnodes_any (A : Option Addr) (n ca : Nat) (xs : List Int) (w : World) (h : Rd w A n (xs.map (Value.int .i64))) (q : Bool) (hq' : nodesR xs = q) : Calls Try.prog 38 #[.slice A n ca] w fun e w' => e = .returned (.bool q) ∧ Below w.heap.size w w' := by
  have hn9 := h.2.1
  have H := Lib.hid h
  have HN : Hid (xs.length = n) := Lib.hid (by simpa using h.len)
  have hq := Lib.hid hq'
  clear h hq'
  go_enter Try.func38, Try.ntmps38
  go_wp2
  go_loopw [7] (fun i wr => ∃ k : Nat, k ≤ n ∧ i = .int .i64 k ∧ w = wr ∧ Hid (∀ j, j < k → nodeAt xs j = true)) (fun i _ => n - (intOf i).toNat)
  case atStart => exact ⟨0, by omega, rfl, rfl, Lib.hid fun j h => absurd h (by omega)⟩
  case round =>
    obtain ⟨k, hk, rfl, hb, hok⟩ := hrel
    subst hb
    by_cases hlt : k < n
    · have hkl : k < xs.length := by have := HN.out; omega
      obtain ⟨x, hx⟩ : ∃ x, Hid (xs[k] = x) := ⟨_, Lib.hid rfl⟩
      obtain ⟨ab, ao, hAe, hc⟩ := H.out.2.2 (by omega)
      subst hAe
      have c0 := rd_at hc hlt hkl hx.out
      cases k with
      | zero =>
        have HST : Hid (∀ j, j < 1 → nodeAt xs j = true) := Lib.hid (by
          intro j hj
          obtain rfl : j = 0 := by omega
          rfl)
        rw [Nat.add_zero] at c0
        rw [show ((0 : Nat) : Int) = 0 from rfl]
        clear hc
        go_wp2
        go_roundw
        case rel => exact ⟨1, by omega, rfl, by trivial, HST⟩
        case measure => simp [intOf]; omega
      | succ j =>
        have hjl : j < xs.length := by omega
        obtain ⟨y, hy⟩ : ∃ y, Hid (xs[j] = y) := ⟨_, Lib.hid rfl⟩
        have d0 := rd_at hc (k := j) (by omega) hjl hy.out
        have hat : Hid (nodeAt xs (j + 1) = decide (y < x)) := Lib.hid (by
          unfold nodeAt
          rw [show j + 1 - 1 = j from rfl, getD_at hkl hx.out, getD_at hjl hy.out]
          simp)
        have HST : Hid (y < x → Hid (∀ i, i < j + 1 + 1 → nodeAt xs i = true)) := Lib.hid (fun hz => Lib.hid (by
          intro i hi
          by_cases e : i = j + 1
          · subst e; rw [hat.out]; simpa using hz
          · exact hok.out i (by omega)))
        have HF : Hid (x ≤ y → q = false) := Lib.hid (fun hz => by rw [← hq.out]; exact nodes_bad hkl (by rw [hat.out]; simp; omega))
        obtain ⟨k, hkj⟩ : ∃ k, k = j + 1 := ⟨_, rfl⟩
        have hkj0 : 0 < k := by omega
        have hkj2 : (k : Int) - 1 = (j : Int) := by omega
        rw [← hkj] at c0 HST hlt hk ⊢
        have hjn : j < n := by omega
        have hwj : IntKind.i64.wrap (j : Int) = (j : Int) := IntWalk.i64_in (j : Int) (by omega)
        by_cases hz : x ≤ y
        case pos =>
          have e : Hid (q = false) := Lib.hid (HF.out hz)
          clear hkj hc
          go_wp2
          go_ret
          exact ⟨retbf e.out, Below.refl _ _⟩
        case neg =>
          have e := HST.out (by omega)
          clear hkj hc
          go_wp2
          go_roundw
          case rel => exact ⟨k + 1, by omega, by simp, by trivial, e⟩
          case measure => simp [intOf]; omega
    · have e : Hid (inB 1 16 xs = q) := Lib.hid (by rw [← hq.out, nodes_end (fun j hj => hok.out j (by have := HN.out; omega))])
      have HC := Lib.hid (in_any 1 16 A n ca xs w H.out q e.out)
      go_wp2_with fail
      refine HC.out.mono ?_
      rintro e w1 ⟨rfl, hb1⟩
      go_wp2
      go_ret
      exact ⟨rfl, hb1⟩
set_option maxHeartbeats 8000000 in
set_option maxRecDepth 100000 in
theorem rightnodes_ref (A : Option Addr) (n ca : Nat) (xs : List Int) (w : World) (h : Rd w A n (xs.map (Value.int .i64))) (q : Bool) (hq' : nodesR xs = q) : Calls Try.prog 39 #[.slice A n ca] w fun e w' => e = .returned (.bool q) ∧ Below w.heap.size w w' := by
  have hn9 := h.2.1
  have H := Lib.hid h
  have HN : Hid (xs.length = n) := Lib.hid (by simpa using h.len)
  have hq := Lib.hid hq'
  clear h hq'
  go_enter Try.func39, Try.ntmps39
  go_wp2
  go_loopw [3] (fun i wr => ∃ k : Nat, k ≤ n ∧ i = .int .i64 k ∧ Below w.heap.size w wr ∧ Hid (∀ j, j < k → nodeAt xs j = true) ∧ Hid (∀ j (hj : j < xs.length), j < k → outN 1 16 xs[j] = false)) (fun i _ => n - (intOf i).toNat)
  case atStart => exact ⟨0, by omega, rfl, Below.refl _ _, Lib.hid fun j h => absurd h (by omega), Lib.hid fun j _ h => absurd h (by omega)⟩
  case round =>
    obtain ⟨k, hk, rfl, hb, hok, hin⟩ := hrel
    by_cases hlt : k < n
    · have hkl : k < xs.length := by have := HN.out; omega
      obtain ⟨x, hx⟩ : ∃ x, Hid (xs[k] = x) := ⟨_, Lib.hid rfl⟩
      obtain ⟨ab, ao, hAe, hc⟩ := (H.out.below hb).2.2 (by omega)
      subst hAe
      have c0 := rd_at hc hlt hkl hx.out
      have HB := Lib.hid hb
      by_cases p1 : x < 1
      case pos =>
        have e : Hid (q = false) := Lib.hid (by rw [← hq.out]; exact nodes_out hkl (by rw [hx.out]; unfold outN; simp; omega))
        have d1 : decide (x < 1) = true := by simpa using p1
        clear hc hb p1
        go_wp2_with fail
        go_quiet (fail)
        go_wp2
        go_ret
        exact ⟨retbf e.out, below2 HB.out (below_drewN _ _)⟩
      by_cases p2 : 16 < x
      case pos =>
        have e : Hid (q = false) := Lib.hid (by rw [← hq.out]; exact nodes_out hkl (by rw [hx.out]; unfold outN; simp; omega))
        have d1 : decide (x < 1) = false := by simpa using p1
        have d2 : decide (16 < x) = true := by simpa using p2
        clear hc hb p1 p2
        go_wp2_with fail
        go_quiet (fail)
        go_wp2
        go_ret
        exact ⟨retbf e.out, below2 HB.out (below_drewN _ _)⟩
      have d1 : decide (x < 1) = false := by simpa using p1
      have d2 : decide (16 < x) = false := by simpa using p2
      have hout : Hid (∀ j (hj : j < xs.length), j < k + 1 → outN 1 16 xs[j] = false) := Lib.hid (by
        intro j hj hjk
        by_cases e : j = k
        · subst e; rw [hx.out]; unfold outN; simp; omega
        · exact hin.out j hj (by omega))
      cases k with
      | zero =>
        have HST : Hid (∀ j, j < 1 → nodeAt xs j = true) := Lib.hid (by
          intro j hj
          obtain rfl : j = 0 := by omega
          rfl)
        rw [Nat.add_zero] at c0
        rw [show ((0 : Nat) : Int) = 0 from rfl]
        clear hc hb p1 p2
        go_wp2_with fail
        go_quiet (fail)
        go_wp2
        go_roundw
        case rel => exact ⟨1, by omega, rfl, below2 HB.out (below_drewN _ _), HST, hout⟩
        case measure => simp [intOf]; omega
      | succ j =>
        have hjl : j < xs.length := by omega
        obtain ⟨y, hy⟩ : ∃ y, Hid (xs[j] = y) := ⟨_, Lib.hid rfl⟩
        have d0 := rd_at hc (k := j) (by omega) hjl hy.out
        have hat : Hid (nodeAt xs (j + 1) = decide (y < x)) := Lib.hid (by
          unfold nodeAt
          rw [show j + 1 - 1 = j from rfl, getD_at hkl hx.out, getD_at hjl hy.out]
          simp)
        have HST : Hid (y < x → Hid (∀ i, i < j + 1 + 1 → nodeAt xs i = true)) := Lib.hid (fun hz => Lib.hid (by
          intro i hi
          by_cases e : i = j + 1
          · subst e; rw [hat.out]; simpa using hz
          · exact hok.out i (by omega)))
        have HF : Hid (x ≤ y → q = false) := Lib.hid (fun hz => by rw [← hq.out]; exact nodes_bad hkl (by rw [hat.out]; simp; omega))
        obtain ⟨k, hkj⟩ : ∃ k, k = j + 1 := ⟨_, rfl⟩
        have hkj0 : 0 < k := by omega
        have hkj1 : decide (0 < (k : Int)) = true := by simp; omega
        have hkj2 : (k : Int) - 1 = (j : Int) := by omega
        rw [← hkj] at c0 HST hlt hk hout ⊢
        have hjn : j < n := by omega
        have hwj : IntKind.i64.wrap (j : Int) = (j : Int) := IntWalk.i64_in (j : Int) (by omega)
        by_cases hz : x ≤ y
        case pos =>
          have e : Hid (q = false) := Lib.hid (HF.out hz)
          have d3 : decide (x ≤ y) = true := by simpa using hz
          clear hkj hc hb p1 p2
          go_wp2_with fail
          go_quiet (fail)
          go_wp2
          go_ret
          exact ⟨retbf e.out, below2 HB.out (below_drewN _ _)⟩
        case neg =>
          have e := HST.out (by omega)
          have d3 : decide (x ≤ y) = false := by simpa using hz
          clear hkj hc hb p1 p2
          go_wp2_with fail
          go_quiet (fail)
          go_wp2
          go_roundw
          case rel => exact ⟨k + 1, by omega, by simp, below2 HB.out (below_drewN _ _), e, hout⟩
          case measure => simp [intOf]; omega
    · have e : Hid (q = true) := Lib.hid (by rw [← hq.out, nodes_end (fun j hj => hok.out j (by have := HN.out; omega)), nodes_in (fun j hj => hin.out j hj (by have := HN.out; omega))])
      go_wp2
      go_ret
      exact ⟨retb e.out, hb⟩
end Go.Proofs.Ytfpocddpnoighaa.It

/- item: the law ItemRights. -/
namespace Go.Proofs.Ytfpocddpnoighaa.It
open Go.RowKit Go.Proofs.Ytfpocddpnoighaa.L Go.Proofs.Ytfpocddpnoighaa.O Go.Proofs.Ytfpocddpnoighaa.A Go.Proofs.Ytfpocddpnoighaa.R Go.Proofs.Ytfpocddpnoighaa.S Go.Proofs.Ytfpocddpnoighaa.T Go.Proofs.Ytfpocddpnoighaa.E Go.Proofs.Ytfpocddpnoighaa.Wr Go.Proofs.Ytfpocddpnoighaa.F
set_option linter.unusedVariables false
set_option linter.unusedSimpArgs false

/-- the document's case. -/
structure Cs where
  i : Sl Im
  n : Sl Int
def encCs (c : Cs) : List Value := [.slice c.i.A c.i.n c.i.c, .slice c.n.A c.n.n c.n.c]
set_option maxRecDepth 100000 in
theorem opens_cs (W : World) : Opens Try.prog W 57 encCs (fun c => SlOk W 5 40 encIm goodIm c.i ∧ SlOk W 1 8 intE intG c.n) :=
  Opens.as (opens_struct (w := W) Try.underlying57 (by kernel_rfl) (opens_fc (off' := 1) rfl (by kernel_rfl) (opens_ims W) (opens_fc (off' := 2) rfl (by kernel_rfl) (opens_ints W) (opens_f0 2))))
    encCs _ (fun x => ⟨x.1, x.2.1⟩) (fun _ => rfl) (fun _ h => ⟨h.1, h.2.1⟩)
theorem cs_cells {W : World} {g : Nat} {x y : Value} {T : TypeId} (h : W.heap[g]? = some (.cells #[x, y] T (0, 0))) : W.cell? ⟨g, 0, none⟩ = some x ∧ W.cell? ⟨g, 1, none⟩ = some y :=
  ⟨by rw [cell_of_row _ _ _ _ _ _ h]; rfl, by rw [cell_of_row _ _ _ _ _ _ h]; rfl⟩
set_option maxHeartbeats 8000000 in
set_option maxRecDepth 100000 in
theorem rights_walk (w : World) (a1 a2 a3 b1 b2 b3 : Int) (iA : Option Addr) (ni ic : Nat) (l : List Im) (nA : Option Addr) (nn nc : Nat) (xs : List Int) (hi' : Ims w iA ni l) (hn' : Rd w nA nn (xs.map (Value.int .i64))) : Calls Try.prog 9 #[.agg #[.int .i64 a1, .int .i64 a2, .int .i64 a3], .agg #[.int .i64 b1, .int .i64 b2, .int .i64 b3], .agg #[.slice iA ni ic, .slice nA nn nc]] w fun e w' => e = .returned (.bool true) ∧ Below w.heap.size w w' := by
  obtain ⟨y1, hy1⟩ : ∃ p, Hid (ordV a1 a2 a3 b1 b2 b3 = p) := ⟨_, Lib.hid rfl⟩
  obtain ⟨y2, hy2⟩ : ∃ p, Hid (tidR ⟨a1, a2, a3⟩ = p) := ⟨_, Lib.hid rfl⟩
  obtain ⟨y3, hy3⟩ : ∃ p, Hid (itemsR l = p) := ⟨_, Lib.hid rfl⟩
  obtain ⟨y4, hy4⟩ : ∃ p, Hid (nodesR xs = p) := ⟨_, Lib.hid rfl⟩
  have hni9 := hi'.rd.2.1
  have hnn9 := hn'.2.1
  obtain ⟨g, hg⟩ : ∃ g, Hid (w.heap.size = g) := ⟨_, Lib.hid rfl⟩
  obtain ⟨W0, hW0⟩ : ∃ W0, Hid (((w.alloc (.cells #[.int .i64 a1, .int .i64 a2, .int .i64 a3] 51)).alloc (.cells #[.int .i64 b1, .int .i64 b2, .int .i64 b3] 51)).alloc (.cells #[.slice iA ni ic, .slice nA nn nc] 57) = W0) := ⟨_, Lib.hid rfl⟩
  have hb0 : Hid (Below w.heap.size w W0) := Lib.hid (by rw [← hW0.out]; exact below2 (below2 (below_alloc _ _) (below_alloc _ _)) (below_alloc _ _))
  have hA : Hid (∀ W, Below W0.heap.size W0 W → W.heap[g]? = some (.cells #[.int .i64 a1, .int .i64 a2, .int .i64 a3] 51 (0, 0)) ∧ W.heap[g + 1]? = some (.cells #[.int .i64 b1, .int .i64 b2, .int .i64 b3] 51 (0, 0)) ∧ W.heap[g + 1 + 1]? = some (.cells #[.slice iA ni ic, .slice nA nn nc] 57 (0, 0))) := Lib.hid (by
    intro W hb
    rw [← hg.out]
    have e1 : W0.heap[w.heap.size]? = some (.cells #[.int .i64 a1, .int .i64 a2, .int .i64 a3] 51 (0, 0)) := by rw [← hW0.out, heap_alloc_old _ _ (by simp; omega), heap_alloc_old _ _ (by simp)]; exact heap_alloc_new _ _
    have e2 : W0.heap[w.heap.size + 1]? = some (.cells #[.int .i64 b1, .int .i64 b2, .int .i64 b3] 51 (0, 0)) := by
      rw [← hW0.out, heap_alloc_old _ _ (by simp)]
      have := heap_alloc_new (w.alloc (.cells #[.int .i64 a1, .int .i64 a2, .int .i64 a3] 51)) (.cells #[.int .i64 b1, .int .i64 b2, .int .i64 b3] 51)
      rw [World.size_alloc] at this; exact this
    have e3 : W0.heap[w.heap.size + 1 + 1]? = some (.cells #[.slice iA ni ic, .slice nA nn nc] 57 (0, 0)) := by
      rw [← hW0.out]
      have := heap_alloc_new ((w.alloc (.cells #[.int .i64 a1, .int .i64 a2, .int .i64 a3] 51)).alloc (.cells #[.int .i64 b1, .int .i64 b2, .int .i64 b3] 51)) (.cells #[.slice iA ni ic, .slice nA nn nc] 57)
      rw [World.size_alloc, World.size_alloc] at this; exact this
    exact ⟨keep_block (.of_below (S := []) hb) e1 (by simp), keep_block (.of_below (S := []) hb) e2 (by simp), keep_block (.of_below (S := []) hb) e3 (by simp)⟩)
  have HI : Hid (Ims W0 iA ni l) := Lib.hid (hi'.below hb0.out)
  have HN : Hid (Rd W0 nA nn (xs.map (Value.int .i64))) := Lib.hid (hn'.below hb0.out)
  clear hi' hn'
  go_enter Try.func9, Try.ntmps9
  go_wp2_with fail
  rw [hW0.out, hg.out]
  refine (awake_any W0).mono ?_
  rintro e w1 ⟨rfl, hb1⟩
  have HB1 := Lib.hid hb1
  obtain ⟨z1, z2⟩ := cs_cells (hA.out w1 hb1).2.2
  clear hb1
  by_cases h1 : 60 < ni
  · go_wp2
    go_ret
    exact ⟨rfl, below2 hb0.out HB1.out⟩
  · by_cases h2 : 60 < nn
    · go_wp2
      go_ret
      exact ⟨rfl, below2 hb0.out HB1.out⟩
    · have hS0 : Below W0.heap.size W0 w1.drew := HB1.out.drew
      go_wp2_with fail
      clear z1 z2
      refine wp_region_one (fun W => Below W0.heap.size W0 W) (fun u v => Below u.heap.size u v) (fun a i => match i with
          | 0 => (fun v _ => v = .agg #[.int .i64 a1, .int .i64 a2, .int .i64 a3])
          | 1 => (fun v _ => v = .agg #[.int .i64 b1, .int .i64 b2, .int .i64 b3])
          | 2 => (fun v _ => v = .int .i64 y1)
          | 3 => (fun v _ => v = .agg #[.int .i64 a1, .int .i64 a2, .int .i64 a3])
          | 4 => (fun v _ => v = .agg #[.int .i64 b1, .int .i64 b2, .int .i64 b3])
          | 5 => (fun v _ => v = .int .i64 y1)
          | 6 => (fun v _ => v = .bool true)
          | 7 => (fun v _ => v = .bool true)
          | 8 => (fun v _ => v = .agg #[.int .i64 a1, .int .i64 a2, .int .i64 a3])
          | 9 => (fun v _ => v = .bool y2)
          | 10 => (fun v _ => v = .agg #[.int .i64 a1, .int .i64 a2, .int .i64 a3])
          | 11 => (fun v _ => v = .bool y2)
          | 12 => (fun v _ => v = .bool true)
          | 13 => (fun v _ => v = .bool true)
          | 14 => (fun v _ => v = .bool true)
          | 15 => (fun v _ => v = .pointer (some ⟨g + 1 + 1, 0, none⟩))
          | 16 => (fun v _ => v = .slice iA ni ic)
          | 17 => (fun v _ => v = .bool y3)
          | 18 => (fun v _ => v = .pointer (some ⟨g + 1 + 1, 0, none⟩))
          | 19 => (fun v _ => v = .slice iA ni ic)
          | 20 => (fun v _ => v = .bool y3)
          | 21 => (fun v _ => v = .bool true)
          | 22 => (fun v _ => v = .bool true)
          | 23 => (fun v _ => v = .bool true)
          | 24 => (fun v _ => v = .pointer (some ⟨g + 1 + 1, 1, none⟩))
          | 25 => (fun v _ => v = .slice nA nn nc)
          | 26 => (fun v _ => v = .bool y4)
          | 27 => (fun v _ => v = .pointer (some ⟨g + 1 + 1, 1, none⟩))
          | 28 => (fun v _ => v = .slice nA nn nc)
          | 29 => (fun v _ => v = .bool y4)
          | 30 => (fun v _ => v = .bool true)
          | 31 => (fun v _ => v = .bool true)
          | 32 => (fun v _ => v = .bool true)
          | _ => (fun _ _ => True)) #[0, 0, 3, 0, 0, 31, 63, 127, 255, 511, 255, 2047, 4095, 8191, 16383, 32767, 65535, 131071, 32767, 294911, 1048575, 2097151, 4194303, 8388607, 16777215, 33554431, 67108863, 16777215, 150994943, 536870911, 1073741823, 2147483647, 4294967295] #[0, 0, 3, 0, 0, 24, 36, 64, 128, 384, 128, 1152, 2688, 4224, 8192, 16384, 49152, 81920, 16384, 278528, 540672, 1196032, 2113536, 4194304, 8388608, 25165824, 41943040, 8388608, 142606336, 276824064, 612368384, 1082130432, 2147483648] 8589934591 (by kernel_rfl) 33 rfl (fun m hm => by subst hm; kernel_rfl) (by kernel_rfl) (fun w => Below.refl _ w) (fun u v w h1 h2 => below2 h1 h2) ?_ (hS0) ?_ ?_
      · intro i hi
        rcases (by omega : i = 0 ∨ i = 1 ∨ i = 2 ∨ i = 3 ∨ i = 4 ∨ i = 5 ∨ i = 6 ∨ i = 7 ∨ i = 8 ∨ i = 9 ∨ i = 10 ∨ i = 11 ∨ i = 12 ∨ i = 13 ∨ i = 14 ∨ i = 15 ∨ i = 16 ∨ i = 17 ∨ i = 18 ∨ i = 19 ∨ i = 20 ∨ i = 21 ∨ i = 22 ∨ i = 23 ∨ i = 24 ∨ i = 25 ∨ i = 26 ∨ i = 27 ∨ i = 28 ∨ i = 29 ∨ i = 30 ∨ i = 31 ∨ i = 32) with rfl | rfl | rfl | rfl | rfl | rfl | rfl | rfl | rfl | rfl | rfl | rfl | rfl | rfl | rfl | rfl | rfl | rfl | rfl | rfl | rfl | rfl | rfl | rfl | rfl | rfl | rfl | rfl | rfl | rfl | rfl | rfl | rfl
        · exact fun v w w' h hr => by exact h
        · exact fun v w w' h hr => by exact h
        · exact fun v w w' h hr => by exact h
        · exact fun v w w' h hr => by exact h
        · exact fun v w w' h hr => by exact h
        · exact fun v w w' h hr => by exact h
        · exact fun v w w' h hr => by exact h
        · exact fun v w w' h hr => by exact h
        · exact fun v w w' h hr => by exact h
        · exact fun v w w' h hr => by exact h
        · exact fun v w w' h hr => by exact h
        · exact fun v w w' h hr => by exact h
        · exact fun v w w' h hr => by exact h
        · exact fun v w w' h hr => by exact h
        · exact fun v w w' h hr => by exact h
        · exact fun v w w' h hr => by exact h
        · exact fun v w w' h hr => by exact h
        · exact fun v w w' h hr => by exact h
        · exact fun v w w' h hr => by exact h
        · exact fun v w w' h hr => by exact h
        · exact fun v w w' h hr => by exact h
        · exact fun v w w' h hr => by exact h
        · exact fun v w w' h hr => by exact h
        · exact fun v w w' h hr => by exact h
        · exact fun v w w' h hr => by exact h
        · exact fun v w w' h hr => by exact h
        · exact fun v w w' h hr => by exact h
        · exact fun v w w' h hr => by exact h
        · exact fun v w w' h hr => by exact h
        · exact fun v w w' h hr => by exact h
        · exact fun v w w' h hr => by exact h
        · exact fun v w w' h hr => by exact h
        · exact fun v w w' h hr => by exact h
      · intro i hi
        rcases (by omega : i = 0 ∨ i = 1 ∨ i = 2 ∨ i = 3 ∨ i = 4 ∨ i = 5 ∨ i = 6 ∨ i = 7 ∨ i = 8 ∨ i = 9 ∨ i = 10 ∨ i = 11 ∨ i = 12 ∨ i = 13 ∨ i = 14 ∨ i = 15 ∨ i = 16 ∨ i = 17 ∨ i = 18 ∨ i = 19 ∨ i = 20 ∨ i = 21 ∨ i = 22 ∨ i = 23 ∨ i = 24 ∨ i = 25 ∨ i = 26 ∨ i = 27 ∨ i = 28 ∨ i = 29 ∨ i = 30 ∨ i = 31 ∨ i = 32) with rfl | rfl | rfl | rfl | rfl | rfl | rfl | rfl | rfl | rfl | rfl | rfl | rfl | rfl | rfl | rfl | rfl | rfl | rfl | rfl | rfl | rfl | rfl | rfl | rfl | rfl | rfl | rfl | rfl | rfl | rfl | rfl | rfl
        · -- 0: Op.load 51 (Operand.tmp 3)
          intro l hl vs W hS hR hp
          obtain rfl : l = [] := hl.symm.trans (by kernel_rfl)
          clear hp hl
          refine opgoal (_) (some 19) rfl rfl fun K hK => ?_
          obtain ⟨f0, f1, f2⟩ := td_cells (hA.out W hS).1
          refine Runs.mk ?_
          simp only [putAll]
          go_simp
          refine hK _ _ ?_ hS ((fun w => Below.refl _ w) W) _ rfl rfl
          first | rfl | go_simp | simp
        · -- 1: Op.load 51 (Operand.tmp 4)
          intro l hl vs W hS hR hp
          obtain rfl : l = [] := hl.symm.trans (by kernel_rfl)
          clear hp hl
          refine opgoal (_) (some 20) rfl rfl fun K hK => ?_
          obtain ⟨f0, f1, f2⟩ := td_cells (hA.out W hS).2.1
          refine Runs.mk ?_
          simp only [putAll]
          go_simp
          refine hK _ _ ?_ hS ((fun w => Below.refl _ w) W) _ rfl rfl
          first | rfl | go_simp | simp
        · -- 2: Op.call { callee := Callee.value (Operand.func 32), args := #[Operand.tmp 19, Operand.tmp 20], argTypes := #[51, 51] }
          intro l hl vs W hS hR hp
          obtain rfl : l = [(0, 19), (1, 20)] := hl.symm.trans (by kernel_rfl)
          have p0 : vs 0 = _ := hp 0 (by decide) (by decide)
          have p1 : vs 1 = _ := hp 1 (by decide) (by decide)
          clear hp hl
          refine opgoal (_) (some 21) rfl rfl fun K hK => ?_
          refine Runs.mk ?_
          simp only [putAll]
          go_simp
          refine (order_any a1 a2 a3 b1 b2 b3 W y1 hy1.out).mono ?_
          rintro e w' ⟨rfl, hb⟩
          go_simp
          exact hK _ _ rfl (below2 hS hb) hb _ rfl rfl
        · -- 3: Op.load 51 (Operand.tmp 3)
          intro l hl vs W hS hR hp
          obtain rfl : l = [] := hl.symm.trans (by kernel_rfl)
          clear hp hl
          refine opgoal (_) (some 22) rfl rfl fun K hK => ?_
          obtain ⟨f0, f1, f2⟩ := td_cells (hA.out W hS).1
          refine Runs.mk ?_
          simp only [putAll]
          go_simp
          refine hK _ _ ?_ hS ((fun w => Below.refl _ w) W) _ rfl rfl
          first | rfl | go_simp | simp
        · -- 4: Op.load 51 (Operand.tmp 4)
          intro l hl vs W hS hR hp
          obtain rfl : l = [] := hl.symm.trans (by kernel_rfl)
          clear hp hl
          refine opgoal (_) (some 23) rfl rfl fun K hK => ?_
          obtain ⟨f0, f1, f2⟩ := td_cells (hA.out W hS).2.1
          refine Runs.mk ?_
          simp only [putAll]
          go_simp
          refine hK _ _ ?_ hS ((fun w => Below.refl _ w) W) _ rfl rfl
          first | rfl | go_simp | simp
        · -- 5: Op.call { callee := Callee.value (Operand.func 33), args := #[Operand.tmp 22, Operand.tmp 23], argTypes := #[51, 51] }
          intro l hl vs W hS hR hp
          obtain rfl : l = [(0, 19), (1, 20), (2, 21), (3, 22), (4, 23)] := hl.symm.trans (by kernel_rfl)
          have p3 : vs 3 = _ := hp 3 (by decide) (by decide)
          have p4 : vs 4 = _ := hp 4 (by decide) (by decide)
          clear hp hl
          refine opgoal (_) (some 24) rfl rfl fun K hK => ?_
          refine Runs.mk ?_
          simp only [putAll]
          go_simp
          refine (order_ref a1 a2 a3 b1 b2 b3 W y1 hy1.out).mono ?_
          rintro e w' ⟨rfl, hb⟩
          go_simp
          exact hK _ _ rfl (below2 hS hb) hb _ rfl rfl
        · -- 6: Op.binOp BinOp.eql 3 (Operand.tmp 21) (Operand.tmp 24) 3
          intro l hl vs W hS hR hp
          obtain rfl : l = [(0, 19), (1, 20), (2, 21), (3, 22), (4, 23), (5, 24)] := hl.symm.trans (by kernel_rfl)
          have p2 : vs 2 = _ := hp 2 (by decide) (by decide)
          have p5 : vs 5 = _ := hp 5 (by decide) (by decide)
          clear hp hl
          refine opgoal (_) (some 25) rfl rfl fun K hK => ?_
          refine Runs.mk ?_
          simp only [putAll]
          go_simp
          refine hK _ _ ?_ hS ((fun w => Below.refl _ w) W) _ rfl rfl
          first | rfl | go_simp | simp
        · -- 7: Op.move (Operand.tmp 25)
          intro l hl vs W hS hR hp
          obtain rfl : l = [(0, 19), (1, 20), (2, 21), (3, 22), (4, 23), (5, 24), (6, 25)] := hl.symm.trans (by kernel_rfl)
          have p6 : vs 6 = _ := hp 6 (by decide) (by decide)
          clear hp hl
          refine opgoal (_) (some 26) rfl rfl fun K hK => ?_
          refine Runs.mk ?_
          simp only [putAll]
          go_simp
          refine hK _ _ ?_ hS ((fun w => Below.refl _ w) W) _ rfl rfl
          first | rfl | go_simp | simp
        · -- 8: Op.load 51 (Operand.tmp 3)  [(7, 'true')]
          intro l hl vs W hS hR hp
          obtain rfl : l = [(0, 19), (1, 20), (2, 21), (3, 22), (4, 23), (5, 24), (6, 25), (7, 26)] := hl.symm.trans (by kernel_rfl)
          have p7 : vs 7 = _ := hp 7 (by decide) (by decide)
          clear hp hl
          refine opgoal (_) (some 27) rfl rfl fun K hK => ?_
          obtain ⟨f0, f1, f2⟩ := td_cells (hA.out W hS).1
          refine Runs.mk ?_
          simp only [putAll]
          go_simp
          refine hK _ _ ?_ hS ((fun w => Below.refl _ w) W) _ rfl rfl
          first | rfl | go_simp | simp
        · -- 9: Op.call { callee := Callee.value (Operand.func 34), args := #[Operand.tmp 27], argTypes := #[51] }  [(7, 'true')]
          intro l hl vs W hS hR hp
          obtain rfl : l = [(0, 19), (1, 20), (2, 21), (3, 22), (4, 23), (5, 24), (6, 25), (7, 26), (8, 27)] := hl.symm.trans (by kernel_rfl)
          have p7 : vs 7 = _ := hp 7 (by decide) (by decide)
          have p8 : vs 8 = _ := hp 8 (by decide) (by decide)
          clear hp hl
          refine opgoal (_) (some 28) rfl rfl fun K hK => ?_
          refine Runs.mk ?_
          simp only [putAll]
          go_simp
          refine (righttid_any ⟨a1, a2, a3⟩ W y2 hy2.out).mono ?_
          rintro e w' ⟨rfl, hb⟩
          go_simp
          exact hK _ _ rfl (below2 hS hb) hb _ rfl rfl
        · -- 10: Op.load 51 (Operand.tmp 3)  [(7, 'true')]
          intro l hl vs W hS hR hp
          obtain rfl : l = [(0, 19), (1, 20), (2, 21), (3, 22), (4, 23), (5, 24), (6, 25), (7, 26)] := hl.symm.trans (by kernel_rfl)
          have p7 : vs 7 = _ := hp 7 (by decide) (by decide)
          clear hp hl
          refine opgoal (_) (some 29) rfl rfl fun K hK => ?_
          obtain ⟨f0, f1, f2⟩ := td_cells (hA.out W hS).1
          refine Runs.mk ?_
          simp only [putAll]
          go_simp
          refine hK _ _ ?_ hS ((fun w => Below.refl _ w) W) _ rfl rfl
          first | rfl | go_simp | simp
        · -- 11: Op.call { callee := Callee.value (Operand.func 35), args := #[Operand.tmp 29], argTypes := #[51] }  [(7, 'true')]
          intro l hl vs W hS hR hp
          obtain rfl : l = [(0, 19), (1, 20), (2, 21), (3, 22), (4, 23), (5, 24), (6, 25), (7, 26), (8, 27), (9, 28), (10, 29)] := hl.symm.trans (by kernel_rfl)
          have p7 : vs 7 = _ := hp 7 (by decide) (by decide)
          have p10 : vs 10 = _ := hp 10 (by decide) (by decide)
          clear hp hl
          refine opgoal (_) (some 30) rfl rfl fun K hK => ?_
          refine Runs.mk ?_
          simp only [putAll]
          go_simp
          refine (righttid_ref ⟨a1, a2, a3⟩ W y2 hy2.out).mono ?_
          rintro e w' ⟨rfl, hb⟩
          go_simp
          exact hK _ _ rfl (below2 hS hb) hb _ rfl rfl
        · -- 12: Op.binOp BinOp.eql 4 (Operand.tmp 28) (Operand.tmp 30) 4  [(7, 'true')]
          intro l hl vs W hS hR hp
          obtain rfl : l = [(0, 19), (1, 20), (2, 21), (3, 22), (4, 23), (5, 24), (6, 25), (7, 26), (8, 27), (9, 28), (10, 29), (11, 30)] := hl.symm.trans (by kernel_rfl)
          have p7 : vs 7 = _ := hp 7 (by decide) (by decide)
          have p9 : vs 9 = _ := hp 9 (by decide) (by decide)
          have p11 : vs 11 = _ := hp 11 (by decide) (by decide)
          clear hp hl
          refine opgoal (_) (some 31) rfl rfl fun K hK => ?_
          refine Runs.mk ?_
          simp only [putAll]
          go_simp
          refine hK _ _ ?_ hS ((fun w => Below.refl _ w) W) _ rfl rfl
          first | rfl | go_simp | simp
        · -- 13: Op.pick (Operand.tmp 26) (Operand.tmp 31) (Operand.const (Value.bool false))
          intro l hl vs W hS hR hp
          obtain rfl : l = [(0, 19), (1, 20), (2, 21), (3, 22), (4, 23), (5, 24), (6, 25), (7, 26), (8, 27), (9, 28), (10, 29), (11, 30), (12, 31)] := hl.symm.trans (by kernel_rfl)
          have p7 : vs 7 = _ := hp 7 (by decide) (by decide)
          have p12 : vs 12 = _ := hp 12 (by decide) (by decide)
          clear hp hl
          refine opgoal (_) (some 32) rfl rfl fun K hK => ?_
          refine Runs.mk ?_
          simp only [putAll]
          go_simp
          refine hK _ _ ?_ hS ((fun w => Below.refl _ w) W) _ rfl rfl
          first | rfl | go_simp | simp
        · -- 14: Op.move (Operand.tmp 32)
          intro l hl vs W hS hR hp
          obtain rfl : l = [(0, 19), (1, 20), (2, 21), (3, 22), (4, 23), (5, 24), (6, 25), (7, 26), (8, 27), (9, 28), (10, 29), (11, 30), (12, 31), (13, 32)] := hl.symm.trans (by kernel_rfl)
          have p13 : vs 13 = _ := hp 13 (by decide) (by decide)
          clear hp hl
          refine opgoal (_) (some 33) rfl rfl fun K hK => ?_
          refine Runs.mk ?_
          simp only [putAll]
          go_simp
          refine hK _ _ ?_ hS ((fun w => Below.refl _ w) W) _ rfl rfl
          first | rfl | go_simp | simp
        · -- 15: Op.fieldAddr 57 (Operand.tmp 5) 0  [(14, 'true')]
          intro l hl vs W hS hR hp
          obtain rfl : l = [(0, 19), (1, 20), (2, 21), (3, 22), (4, 23), (5, 24), (6, 25), (7, 26), (8, 27), (9, 28), (10, 29), (11, 30), (12, 31), (13, 32), (14, 33)] := hl.symm.trans (by kernel_rfl)
          have p14 : vs 14 = _ := hp 14 (by decide) (by decide)
          clear hp hl
          refine opgoal (_) (some 34) rfl rfl fun K hK => ?_
          refine Runs.mk ?_
          simp only [putAll]
          go_simp
          refine hK _ _ ?_ hS ((fun w => Below.refl _ w) W) _ rfl rfl
          first | rfl | go_simp | simp
        · -- 16: Op.load 54 (Operand.tmp 34)  [(14, 'true')]
          intro l hl vs W hS hR hp
          obtain rfl : l = [(0, 19), (1, 20), (2, 21), (3, 22), (4, 23), (5, 24), (6, 25), (7, 26), (8, 27), (9, 28), (10, 29), (11, 30), (12, 31), (13, 32), (14, 33), (15, 34)] := hl.symm.trans (by kernel_rfl)
          have p14 : vs 14 = _ := hp 14 (by decide) (by decide)
          have p15 : vs 15 = _ := hp 15 (by decide) (by decide)
          clear hp hl
          refine opgoal (_) (some 35) rfl rfl fun K hK => ?_
          obtain ⟨f0, f1⟩ := cs_cells (hA.out W hS).2.2
          refine Runs.mk ?_
          simp only [putAll]
          go_simp
          refine hK _ _ ?_ hS ((fun w => Below.refl _ w) W) _ rfl rfl
          first | rfl | go_simp | simp
        · -- 17: Op.call { callee := Callee.value (Operand.func 36), args := #[Operand.tmp 35], argTypes := #[54] }  [(14, 'true')]
          intro l hl vs W hS hR hp
          obtain rfl : l = [(0, 19), (1, 20), (2, 21), (3, 22), (4, 23), (5, 24), (6, 25), (7, 26), (8, 27), (9, 28), (10, 29), (11, 30), (12, 31), (13, 32), (14, 33), (15, 34), (16, 35)] := hl.symm.trans (by kernel_rfl)
          have p14 : vs 14 = _ := hp 14 (by decide) (by decide)
          have p16 : vs 16 = _ := hp 16 (by decide) (by decide)
          clear hp hl
          refine opgoal (_) (some 36) rfl rfl fun K hK => ?_
          refine Runs.mk ?_
          simp only [putAll]
          go_simp
          refine (rightitems_any iA ni ic l W (HI.out.below hS) y3 hy3.out).mono ?_
          rintro e w' ⟨rfl, hb⟩
          go_simp
          exact hK _ _ rfl (below2 hS hb) hb _ rfl rfl
        · -- 18: Op.fieldAddr 57 (Operand.tmp 5) 0  [(14, 'true')]
          intro l hl vs W hS hR hp
          obtain rfl : l = [(0, 19), (1, 20), (2, 21), (3, 22), (4, 23), (5, 24), (6, 25), (7, 26), (8, 27), (9, 28), (10, 29), (11, 30), (12, 31), (13, 32), (14, 33)] := hl.symm.trans (by kernel_rfl)
          have p14 : vs 14 = _ := hp 14 (by decide) (by decide)
          clear hp hl
          refine opgoal (_) (some 37) rfl rfl fun K hK => ?_
          refine Runs.mk ?_
          simp only [putAll]
          go_simp
          refine hK _ _ ?_ hS ((fun w => Below.refl _ w) W) _ rfl rfl
          first | rfl | go_simp | simp
        · -- 19: Op.load 54 (Operand.tmp 37)  [(14, 'true')]
          intro l hl vs W hS hR hp
          obtain rfl : l = [(0, 19), (1, 20), (2, 21), (3, 22), (4, 23), (5, 24), (6, 25), (7, 26), (8, 27), (9, 28), (10, 29), (11, 30), (12, 31), (13, 32), (14, 33), (18, 37)] := hl.symm.trans (by kernel_rfl)
          have p14 : vs 14 = _ := hp 14 (by decide) (by decide)
          have p18 : vs 18 = _ := hp 18 (by decide) (by decide)
          clear hp hl
          refine opgoal (_) (some 38) rfl rfl fun K hK => ?_
          obtain ⟨f0, f1⟩ := cs_cells (hA.out W hS).2.2
          refine Runs.mk ?_
          simp only [putAll]
          go_simp
          refine hK _ _ ?_ hS ((fun w => Below.refl _ w) W) _ rfl rfl
          first | rfl | go_simp | simp
        · -- 20: Op.call { callee := Callee.value (Operand.func 37), args := #[Operand.tmp 38], argTypes := #[54] }  [(14, 'true')]
          intro l hl vs W hS hR hp
          obtain rfl : l = [(0, 19), (1, 20), (2, 21), (3, 22), (4, 23), (5, 24), (6, 25), (7, 26), (8, 27), (9, 28), (10, 29), (11, 30), (12, 31), (13, 32), (14, 33), (15, 34), (16, 35), (17, 36), (18, 37), (19, 38)] := hl.symm.trans (by kernel_rfl)
          have p14 : vs 14 = _ := hp 14 (by decide) (by decide)
          have p19 : vs 19 = _ := hp 19 (by decide) (by decide)
          clear hp hl
          refine opgoal (_) (some 39) rfl rfl fun K hK => ?_
          refine Runs.mk ?_
          simp only [putAll]
          go_simp
          refine (rightitems_ref iA ni ic l W (HI.out.below hS) y3 hy3.out).mono ?_
          rintro e w' ⟨rfl, hb⟩
          go_simp
          exact hK _ _ rfl (below2 hS hb) hb _ rfl rfl
        · -- 21: Op.binOp BinOp.eql 4 (Operand.tmp 36) (Operand.tmp 39) 4  [(14, 'true')]
          intro l hl vs W hS hR hp
          obtain rfl : l = [(0, 19), (1, 20), (2, 21), (3, 22), (4, 23), (5, 24), (6, 25), (7, 26), (8, 27), (9, 28), (10, 29), (11, 30), (12, 31), (13, 32), (14, 33), (15, 34), (16, 35), (17, 36), (18, 37), (19, 38), (20, 39)] := hl.symm.trans (by kernel_rfl)
          have p14 : vs 14 = _ := hp 14 (by decide) (by decide)
          have p17 : vs 17 = _ := hp 17 (by decide) (by decide)
          have p20 : vs 20 = _ := hp 20 (by decide) (by decide)
          clear hp hl
          refine opgoal (_) (some 40) rfl rfl fun K hK => ?_
          refine Runs.mk ?_
          simp only [putAll]
          go_simp
          refine hK _ _ ?_ hS ((fun w => Below.refl _ w) W) _ rfl rfl
          first | rfl | go_simp | simp
        · -- 22: Op.pick (Operand.tmp 33) (Operand.tmp 40) (Operand.const (Value.bool false))
          intro l hl vs W hS hR hp
          obtain rfl : l = [(0, 19), (1, 20), (2, 21), (3, 22), (4, 23), (5, 24), (6, 25), (7, 26), (8, 27), (9, 28), (10, 29), (11, 30), (12, 31), (13, 32), (14, 33), (15, 34), (16, 35), (17, 36), (18, 37), (19, 38), (20, 39), (21, 40)] := hl.symm.trans (by kernel_rfl)
          have p14 : vs 14 = _ := hp 14 (by decide) (by decide)
          have p21 : vs 21 = _ := hp 21 (by decide) (by decide)
          clear hp hl
          refine opgoal (_) (some 41) rfl rfl fun K hK => ?_
          refine Runs.mk ?_
          simp only [putAll]
          go_simp
          refine hK _ _ ?_ hS ((fun w => Below.refl _ w) W) _ rfl rfl
          first | rfl | go_simp | simp
        · -- 23: Op.move (Operand.tmp 41)
          intro l hl vs W hS hR hp
          obtain rfl : l = [(0, 19), (1, 20), (2, 21), (3, 22), (4, 23), (5, 24), (6, 25), (7, 26), (8, 27), (9, 28), (10, 29), (11, 30), (12, 31), (13, 32), (14, 33), (15, 34), (16, 35), (17, 36), (18, 37), (19, 38), (20, 39), (21, 40), (22, 41)] := hl.symm.trans (by kernel_rfl)
          have p22 : vs 22 = _ := hp 22 (by decide) (by decide)
          clear hp hl
          refine opgoal (_) (some 42) rfl rfl fun K hK => ?_
          refine Runs.mk ?_
          simp only [putAll]
          go_simp
          refine hK _ _ ?_ hS ((fun w => Below.refl _ w) W) _ rfl rfl
          first | rfl | go_simp | simp
        · -- 24: Op.fieldAddr 57 (Operand.tmp 5) 1  [(23, 'true')]
          intro l hl vs W hS hR hp
          obtain rfl : l = [(0, 19), (1, 20), (2, 21), (3, 22), (4, 23), (5, 24), (6, 25), (7, 26), (8, 27), (9, 28), (10, 29), (11, 30), (12, 31), (13, 32), (14, 33), (15, 34), (16, 35), (17, 36), (18, 37), (19, 38), (20, 39), (21, 40), (22, 41), (23, 42)] := hl.symm.trans (by kernel_rfl)
          have p23 : vs 23 = _ := hp 23 (by decide) (by decide)
          clear hp hl
          refine opgoal (_) (some 43) rfl rfl fun K hK => ?_
          refine Runs.mk ?_
          simp only [putAll]
          go_simp
          refine hK _ _ ?_ hS ((fun w => Below.refl _ w) W) _ rfl rfl
          first | rfl | go_simp | simp
        · -- 25: Op.load 55 (Operand.tmp 43)  [(23, 'true')]
          intro l hl vs W hS hR hp
          obtain rfl : l = [(0, 19), (1, 20), (2, 21), (3, 22), (4, 23), (5, 24), (6, 25), (7, 26), (8, 27), (9, 28), (10, 29), (11, 30), (12, 31), (13, 32), (14, 33), (15, 34), (16, 35), (17, 36), (18, 37), (19, 38), (20, 39), (21, 40), (22, 41), (23, 42), (24, 43)] := hl.symm.trans (by kernel_rfl)
          have p23 : vs 23 = _ := hp 23 (by decide) (by decide)
          have p24 : vs 24 = _ := hp 24 (by decide) (by decide)
          clear hp hl
          refine opgoal (_) (some 44) rfl rfl fun K hK => ?_
          obtain ⟨f0, f1⟩ := cs_cells (hA.out W hS).2.2
          refine Runs.mk ?_
          simp only [putAll]
          go_simp
          refine hK _ _ ?_ hS ((fun w => Below.refl _ w) W) _ rfl rfl
          first | rfl | go_simp | simp
        · -- 26: Op.call { callee := Callee.value (Operand.func 38), args := #[Operand.tmp 44], argTypes := #[55] }  [(23, 'true')]
          intro l hl vs W hS hR hp
          obtain rfl : l = [(0, 19), (1, 20), (2, 21), (3, 22), (4, 23), (5, 24), (6, 25), (7, 26), (8, 27), (9, 28), (10, 29), (11, 30), (12, 31), (13, 32), (14, 33), (15, 34), (16, 35), (17, 36), (18, 37), (19, 38), (20, 39), (21, 40), (22, 41), (23, 42), (24, 43), (25, 44)] := hl.symm.trans (by kernel_rfl)
          have p23 : vs 23 = _ := hp 23 (by decide) (by decide)
          have p25 : vs 25 = _ := hp 25 (by decide) (by decide)
          clear hp hl
          refine opgoal (_) (some 45) rfl rfl fun K hK => ?_
          refine Runs.mk ?_
          simp only [putAll]
          go_simp
          refine (rightnodes_any nA nn nc xs W (HN.out.below hS) y4 hy4.out).mono ?_
          rintro e w' ⟨rfl, hb⟩
          go_simp
          exact hK _ _ rfl (below2 hS hb) hb _ rfl rfl
        · -- 27: Op.fieldAddr 57 (Operand.tmp 5) 1  [(23, 'true')]
          intro l hl vs W hS hR hp
          obtain rfl : l = [(0, 19), (1, 20), (2, 21), (3, 22), (4, 23), (5, 24), (6, 25), (7, 26), (8, 27), (9, 28), (10, 29), (11, 30), (12, 31), (13, 32), (14, 33), (15, 34), (16, 35), (17, 36), (18, 37), (19, 38), (20, 39), (21, 40), (22, 41), (23, 42)] := hl.symm.trans (by kernel_rfl)
          have p23 : vs 23 = _ := hp 23 (by decide) (by decide)
          clear hp hl
          refine opgoal (_) (some 46) rfl rfl fun K hK => ?_
          refine Runs.mk ?_
          simp only [putAll]
          go_simp
          refine hK _ _ ?_ hS ((fun w => Below.refl _ w) W) _ rfl rfl
          first | rfl | go_simp | simp
        · -- 28: Op.load 55 (Operand.tmp 46)  [(23, 'true')]
          intro l hl vs W hS hR hp
          obtain rfl : l = [(0, 19), (1, 20), (2, 21), (3, 22), (4, 23), (5, 24), (6, 25), (7, 26), (8, 27), (9, 28), (10, 29), (11, 30), (12, 31), (13, 32), (14, 33), (15, 34), (16, 35), (17, 36), (18, 37), (19, 38), (20, 39), (21, 40), (22, 41), (23, 42), (27, 46)] := hl.symm.trans (by kernel_rfl)
          have p23 : vs 23 = _ := hp 23 (by decide) (by decide)
          have p27 : vs 27 = _ := hp 27 (by decide) (by decide)
          clear hp hl
          refine opgoal (_) (some 47) rfl rfl fun K hK => ?_
          obtain ⟨f0, f1⟩ := cs_cells (hA.out W hS).2.2
          refine Runs.mk ?_
          simp only [putAll]
          go_simp
          refine hK _ _ ?_ hS ((fun w => Below.refl _ w) W) _ rfl rfl
          first | rfl | go_simp | simp
        · -- 29: Op.call { callee := Callee.value (Operand.func 39), args := #[Operand.tmp 47], argTypes := #[55] }  [(23, 'true')]
          intro l hl vs W hS hR hp
          obtain rfl : l = [(0, 19), (1, 20), (2, 21), (3, 22), (4, 23), (5, 24), (6, 25), (7, 26), (8, 27), (9, 28), (10, 29), (11, 30), (12, 31), (13, 32), (14, 33), (15, 34), (16, 35), (17, 36), (18, 37), (19, 38), (20, 39), (21, 40), (22, 41), (23, 42), (24, 43), (25, 44), (26, 45), (27, 46), (28, 47)] := hl.symm.trans (by kernel_rfl)
          have p23 : vs 23 = _ := hp 23 (by decide) (by decide)
          have p28 : vs 28 = _ := hp 28 (by decide) (by decide)
          clear hp hl
          refine opgoal (_) (some 48) rfl rfl fun K hK => ?_
          refine Runs.mk ?_
          simp only [putAll]
          go_simp
          refine (rightnodes_ref nA nn nc xs W (HN.out.below hS) y4 hy4.out).mono ?_
          rintro e w' ⟨rfl, hb⟩
          go_simp
          exact hK _ _ rfl (below2 hS hb) hb _ rfl rfl
        · -- 30: Op.binOp BinOp.eql 4 (Operand.tmp 45) (Operand.tmp 48) 4  [(23, 'true')]
          intro l hl vs W hS hR hp
          obtain rfl : l = [(0, 19), (1, 20), (2, 21), (3, 22), (4, 23), (5, 24), (6, 25), (7, 26), (8, 27), (9, 28), (10, 29), (11, 30), (12, 31), (13, 32), (14, 33), (15, 34), (16, 35), (17, 36), (18, 37), (19, 38), (20, 39), (21, 40), (22, 41), (23, 42), (24, 43), (25, 44), (26, 45), (27, 46), (28, 47), (29, 48)] := hl.symm.trans (by kernel_rfl)
          have p23 : vs 23 = _ := hp 23 (by decide) (by decide)
          have p26 : vs 26 = _ := hp 26 (by decide) (by decide)
          have p29 : vs 29 = _ := hp 29 (by decide) (by decide)
          clear hp hl
          refine opgoal (_) (some 49) rfl rfl fun K hK => ?_
          refine Runs.mk ?_
          simp only [putAll]
          go_simp
          refine hK _ _ ?_ hS ((fun w => Below.refl _ w) W) _ rfl rfl
          first | rfl | go_simp | simp
        · -- 31: Op.pick (Operand.tmp 42) (Operand.tmp 49) (Operand.const (Value.bool false))
          intro l hl vs W hS hR hp
          obtain rfl : l = [(0, 19), (1, 20), (2, 21), (3, 22), (4, 23), (5, 24), (6, 25), (7, 26), (8, 27), (9, 28), (10, 29), (11, 30), (12, 31), (13, 32), (14, 33), (15, 34), (16, 35), (17, 36), (18, 37), (19, 38), (20, 39), (21, 40), (22, 41), (23, 42), (24, 43), (25, 44), (26, 45), (27, 46), (28, 47), (29, 48), (30, 49)] := hl.symm.trans (by kernel_rfl)
          have p23 : vs 23 = _ := hp 23 (by decide) (by decide)
          have p30 : vs 30 = _ := hp 30 (by decide) (by decide)
          clear hp hl
          refine opgoal (_) (some 50) rfl rfl fun K hK => ?_
          refine Runs.mk ?_
          simp only [putAll]
          go_simp
          refine hK _ _ ?_ hS ((fun w => Below.refl _ w) W) _ rfl rfl
          first | rfl | go_simp | simp
        · -- 32: Op.assign (Operand.tmp 50)
          intro l hl vs W hS hR hp
          obtain rfl : l = [(0, 19), (1, 20), (2, 21), (3, 22), (4, 23), (5, 24), (6, 25), (7, 26), (8, 27), (9, 28), (10, 29), (11, 30), (12, 31), (13, 32), (14, 33), (15, 34), (16, 35), (17, 36), (18, 37), (19, 38), (20, 39), (21, 40), (22, 41), (23, 42), (24, 43), (25, 44), (26, 45), (27, 46), (28, 47), (29, 48), (30, 49), (31, 50)] := hl.symm.trans (by kernel_rfl)
          have p31 : vs 31 = _ := hp 31 (by decide) (by decide)
          clear hp hl
          refine opgoal (_) (some 6) rfl rfl fun K hK => ?_
          refine Runs.mk ?_
          simp only [putAll]
          go_simp
          refine hK _ _ ?_ hS ((fun w => Below.refl _ w) W) _ rfl rfl
          first | rfl | go_simp | simp
      · intro l hl vs W hS hR hp
        obtain rfl : l = [(0, 19), (1, 20), (2, 21), (3, 22), (4, 23), (5, 24), (6, 25), (7, 26), (8, 27), (9, 28), (10, 29), (11, 30), (12, 31), (13, 32), (14, 33), (15, 34), (16, 35), (17, 36), (18, 37), (19, 38), (20, 39), (21, 40), (22, 41), (23, 42), (24, 43), (25, 44), (26, 45), (27, 46), (28, 47), (29, 48), (30, 49), (31, 50), (32, 6)] := hl.symm.trans (by kernel_rfl)
        have p0 : vs 0 = _ := hp 0 (by decide) (by decide)
        have p1 : vs 1 = _ := hp 1 (by decide) (by decide)
        have p2 : vs 2 = _ := hp 2 (by decide) (by decide)
        have p3 : vs 3 = _ := hp 3 (by decide) (by decide)
        have p4 : vs 4 = _ := hp 4 (by decide) (by decide)
        have p5 : vs 5 = _ := hp 5 (by decide) (by decide)
        have p6 : vs 6 = _ := hp 6 (by decide) (by decide)
        have p7 : vs 7 = _ := hp 7 (by decide) (by decide)
        have p8 : vs 8 = _ := hp 8 (by decide) (by decide)
        have p9 : vs 9 = _ := hp 9 (by decide) (by decide)
        have p10 : vs 10 = _ := hp 10 (by decide) (by decide)
        have p11 : vs 11 = _ := hp 11 (by decide) (by decide)
        have p12 : vs 12 = _ := hp 12 (by decide) (by decide)
        have p13 : vs 13 = _ := hp 13 (by decide) (by decide)
        have p14 : vs 14 = _ := hp 14 (by decide) (by decide)
        have p15 : vs 15 = _ := hp 15 (by decide) (by decide)
        have p16 : vs 16 = _ := hp 16 (by decide) (by decide)
        have p17 : vs 17 = _ := hp 17 (by decide) (by decide)
        have p18 : vs 18 = _ := hp 18 (by decide) (by decide)
        have p19 : vs 19 = _ := hp 19 (by decide) (by decide)
        have p20 : vs 20 = _ := hp 20 (by decide) (by decide)
        have p21 : vs 21 = _ := hp 21 (by decide) (by decide)
        have p22 : vs 22 = _ := hp 22 (by decide) (by decide)
        have p23 : vs 23 = _ := hp 23 (by decide) (by decide)
        have p24 : vs 24 = _ := hp 24 (by decide) (by decide)
        have p25 : vs 25 = _ := hp 25 (by decide) (by decide)
        have p26 : vs 26 = _ := hp 26 (by decide) (by decide)
        have p27 : vs 27 = _ := hp 27 (by decide) (by decide)
        have p28 : vs 28 = _ := hp 28 (by decide) (by decide)
        have p29 : vs 29 = _ := hp 29 (by decide) (by decide)
        have p30 : vs 30 = _ := hp 30 (by decide) (by decide)
        have p31 : vs 31 = _ := hp 31 (by decide) (by decide)
        have p32 : vs 32 = _ := hp 32 (by decide) (by decide)
        clear hp hl
        simp only [putAll_mk, setAll, List.setIfInBounds_toArray, List.set_cons_succ, List.set_cons_zero, p0, p1, p2, p3, p4, p5, p6, p7, p8, p9, p10, p11, p12, p13, p14, p15, p16, p17, p18, p19, p20, p21, p22, p23, p24, p25, p26, p27, p28, p29, p30, p31, p32]
        have HS := Lib.hid hS
        clear hS hR
        go_wp2
        go_ret
        exact ⟨rfl, below2 hb0.out HS.out⟩
theorem rights_row (w : World) (a b : Td) (x : Cs) (ha : goodTd a) (hb : goodTd b) (hx : SlOk w 5 40 encIm goodIm x.i ∧ SlOk w 1 8 intE intG x.n) :
    Calls Try.prog 9 #[.agg (encTd a).toArray, .agg (encTd b).toArray, .agg (encCs x).toArray] w fun e w' => e = .returned (.bool true) ∧ Below w.heap.size w w' :=
  rights_walk w a.a a.b a.c b.a b.b b.c _ _ _ x.i.xs _ _ _ x.n.xs (ims_of hx.1) (ints_rd hx.2)
end Go.Proofs.Ytfpocddpnoighaa.It

/- item: items and nodes are put. -/
namespace Go.Proofs.Ytfpocddpnoighaa.It
open Go.RowKit Go.Proofs.Ytfpocddpnoighaa.L Go.Proofs.Ytfpocddpnoighaa.O Go.Proofs.Ytfpocddpnoighaa.A Go.Proofs.Ytfpocddpnoighaa.R Go.Proofs.Ytfpocddpnoighaa.S Go.Proofs.Ytfpocddpnoighaa.T Go.Proofs.Ytfpocddpnoighaa.E Go.Proofs.Ytfpocddpnoighaa.Wr Go.Proofs.Ytfpocddpnoighaa.F
set_option linter.unusedVariables false
set_option linter.unusedSimpArgs false

def itemB (x : Im) : List UInt8 := numsB [x.c, x.v, x.l] ++ ([if x.w then 1 else 0] ++ numsB [x.n])
def itemsB (l : List Im) : List UInt8 := l.flatMap itemB
theorem len_item (x : Im) : (itemB x).length = 33 := by simp [itemB, len_nums]
theorem len_items (l : List Im) : (itemsB l).length = l.length * 33 := by
  induction l with
  | nil => rfl
  | cons x l ih => simp only [itemsB, List.flatMap_cons, List.length_append, List.length_cons] at ih ⊢; rw [ih, len_item]; omega
theorem items_snoc (l : List Im) (k : Nat) (h : k < l.length) (x : Im) (hx : l[k] = x) : itemsB (l.take (k + 1)) = itemsB (l.take k) ++ itemB x := by
  subst hx
  unfold itemsB
  rw [← take_snoc l k h]
  simp only [List.flatMap_append, List.flatMap_cons, List.flatMap_nil, List.append_nil]
/-- how many, put. -/
theorem count_fit (b : Nat) (r : Option Nat) (bs : List UInt8) (bad : Bool) (n : Nat) (hn : n ≤ 65535) (w : World) (h : Wr w b r bs bad) (hlen : bs.length + 2 ≤ 140737488355328) :
    Calls Try.prog 80 #[.pointer (some ⟨b, 0, none⟩), .int .i64 n] w fun e w' => e = .returned (.tuple #[]) ∧ Wrs w b (blks b r) (bs ++ bigB n 2) bad w' := by
  have := count_any b r bs bad n w h hlen
  have hk : okN n = true := by simp [okN]; omega
  rw [hk] at this
  simpa using this
/-- a round's state: the writer, and the item's own block. -/
structure Ph (w0 : World) (b : Nat) (S : List Nat) (gb : Nat) (o : Obj) (r : Option Nat) (bs : List UInt8) (bad : Bool) (W : World) : Prop where
  wr : Wr W b r bs bad
  rs : ∀ k, r = some k → k ∈ S ∨ w0.heap.size ≤ k
  keep : Keep S w0 W
  own : b ∈ S ∨ w0.heap.size ≤ b
  blk : W.heap[gb]? = some o
  ne : gb ∉ blks b r
theorem Ph.below {w0 W W' : World} {b : Nat} {S : List Nat} {gb : Nat} {o : Obj} {r : Option Nat} {bs : List UInt8} {bad : Bool} (h : Ph w0 b S gb o r bs bad W) (hb : Below W.heap.size W W') : Ph w0 b S gb o r bs bad W' :=
  ⟨h.wr.below hb, h.rs, h.keep.trans (.of_below hb), h.own, keep_block (.of_below (S := []) hb) h.blk (by simp), h.ne⟩
theorem Ph.wrs {w0 W : World} {b : Nat} {S : List Nat} {gb : Nat} {o : Obj} {r : Option Nat} {bs : List UInt8} {bad : Bool} (h : Ph w0 b S gb o r bs bad W) : Wrs w0 b S bs bad W := ⟨⟨r, h.wr, h.rs⟩, h.keep, h.own⟩
theorem Ph.step {w0 W W' : World} {b : Nat} {S : List Nat} {gb : Nat} {o : Obj} {r : Option Nat} {bs bs' : List UInt8} {bad bad' : Bool} (h : Ph w0 b S gb o r bs bad W) (hw : Wrs W b (blks b r) bs' bad' W') : ∃ r', Ph w0 b S gb o r' bs' bad' W' := by
  obtain ⟨r', h1, h2⟩ := hw.out
  have hlt : gb < W.heap.size := (Array.getElem?_eq_some_iff.1 h.blk).1
  have hst := Wrs.step h.keep h.own h.rs hw
  refine ⟨r', h1, fun k hk => ?_, hst.keep, h.own, keep_block hw.keep h.blk h.ne, fun hm => ?_⟩
  · rcases h2 k hk with h3 | h3
    · rcases mem_blks.1 h3 with rfl | h3
      · exact h.own
      · exact h.rs k h3
    · exact .inr (Nat.le_trans h.keep.size h3)
  · rcases mem_blks.1 hm with rfl | hm
    · exact h.ne (mem_blks.2 (.inl rfl))
    · rcases h2 gb hm with h3 | h3
      · exact h.ne h3
      · omega
set_option maxHeartbeats 4000000 in
set_option maxRecDepth 100000 in
theorem nodes_put (b : Nat) (r : Option Nat) (bs : List UInt8) (bad : Bool) (xs : List Int) (A : Option Addr) (n c : Nat) (w : World) (h : Wr w b r bs bad) (hr : Rd w A n (xs.map (Value.int .i64))) (hA : 0 < n → ∀ o, A = some o → o.block ∉ blks b r) (hn : n ≤ 65535) (hlen : bs.length + 2 + n * 8 ≤ 140737488355328) :
    Calls Try.prog 42 #[.pointer (some ⟨b, 0, none⟩), .slice A n c] w fun e w' => e = .returned (.tuple #[]) ∧ Wrs w b (blks b r) (bs ++ (bigB n 2 ++ numsB xs)) bad w' := by
  have hxl : xs.length = n := by simpa using hr.len
  have HC := Lib.hid (count_fit b r bs bad n hn w h (by omega))
  have HR := Lib.hid hr
  have HA := Lib.hid hA
  have HL : Hid ((bs ++ bigB n 2).length + xs.length * 8 ≤ 140737488355328) := Lib.hid (by rw [List.length_append, len_big, hxl]; omega)
  clear h hr hA hxl
  go_enter Try.func42, Try.ntmps42
  go_wp2_with fail
  refine HC.out.mono ?_
  rintro e w1 ⟨rfl, h1⟩
  obtain ⟨r1, hw1, hr1⟩ := h1.out
  have HN := Lib.hid (nums_any b r1 (bs ++ bigB n 2) bad xs A n c w1 hw1 (Rd.keep0 HR.out h1.keep HA.out) (fun h0 o ho hm => by
    rcases mem_blks.1 hm with e | e
    · exact HA.out h0 o ho (mem_blks.2 (.inl e))
    · rcases hr1 _ e with e | e
      · exact HA.out h0 o ho e
      · exact absurd (rd_lt HR.out h0 o ho) (by omega)) HL.out)
  have HS : Hid (∀ w2, Wrs w1 b (blks b r1) (bs ++ bigB n 2 ++ numsB xs) bad w2 → Wrs w b (blks b r) (bs ++ (bigB n 2 ++ numsB xs)) bad w2) := Lib.hid (fun w2 h2 => by
    rw [← List.append_assoc]
    exact Wrs.step h1.keep h1.own hr1 h2)
  clear h1 hw1 hr1 HC
  go_wp2_with fail
  refine HN.out.mono ?_
  rintro e w2 ⟨rfl, h2⟩
  go_wp2
  go_end0
  exact ⟨rfl, HS.out _ h2⟩
set_option maxHeartbeats 8000000 in
set_option maxRecDepth 100000 in
theorem items_put (b : Nat) (r : Option Nat) (bs : List UInt8) (bad : Bool) (l : List Im) (A : Option Addr) (n c : Nat) (w : World) (h : Wr w b r bs bad) (hr : Ims w A n l) (hA : 0 < n → ∀ o, A = some o → o.block ∉ blks b r) (hn : n ≤ 65535) (hlen : bs.length + 2 + n * 33 ≤ 140737488355328) :
    Calls Try.prog 41 #[.pointer (some ⟨b, 0, none⟩), .slice A n c] w fun e w' => e = .returned (.tuple #[]) ∧ Wrs w b (blks b r) (bs ++ (bigB n 2 ++ itemsB l)) bad w' := by
  have hn9 := hr.rd.2.1
  have HC := Lib.hid (count_fit b r bs bad n hn w h (by omega))
  have H := Lib.hid hr
  have HN := Lib.hid hr.len
  have HA := Lib.hid hA
  have hlen := Lib.hid hlen
  clear h hr hA
  go_enter Try.func41, Try.ntmps41
  go_wp2_with fail
  refine HC.out.mono ?_
  rintro e w1 ⟨rfl, h1⟩
  have H1 := Lib.hid h1
  clear h1 HC
  go_wp2
  go_loopw [14] (fun i wr => ∃ k : Nat, k ≤ n ∧ i = .int .i64 k ∧ Wrs w b (blks b r) (bs ++ (bigB n 2 ++ itemsB (l.take k))) bad wr) (fun i _ => n - (intOf i).toNat)
  case atStart => exact ⟨0, by omega, rfl, by simpa [itemsB] using H1.out⟩
  case round =>
    obtain ⟨k, hk, rfl, hW⟩ := hrel
    by_cases hlt : k < n
    · have hkl : k < l.length := by have := HN.out; omega
      have hI : Ims wr A n l := ⟨H.out.rd.keep hW.keep HA.out, H.out.good⟩
      obtain ⟨x, hx⟩ : ∃ x, Hid (l[k] = x) := ⟨_, Lib.hid rfl⟩
      obtain ⟨ab, ao, hAe, c0, c1, c2, c3, c4⟩ := hI.at k hlt hkl x hx.out
      subst hAe
      obtain ⟨xc, xv, xl, xw, xn⟩ := x
      dsimp only at c0 c1 c2 c3 c4
      obtain ⟨bs1, hbs1⟩ : ∃ y, Hid (bs ++ (bigB n 2 ++ itemsB (l.take k)) = y) := ⟨_, Lib.hid rfl⟩
      obtain ⟨bs2, hbs2⟩ : ∃ y, Hid (bs1 ++ numsB [xc, xv, xl] = y) := ⟨_, Lib.hid rfl⟩
      obtain ⟨bs3, hbs3⟩ : ∃ y, Hid (bs2 ++ [if xw then 1 else 0] = y) := ⟨_, Lib.hid rfl⟩
      obtain ⟨bs4, hbs4⟩ : ∃ y, Hid (bs3 ++ numsB [xn] = y) := ⟨_, Lib.hid rfl⟩
      have hnext : Hid (bs ++ (bigB n 2 ++ itemsB (l.take (k + 1))) = bs4) := Lib.hid (by
        rw [← hbs4.out, ← hbs3.out, ← hbs2.out, ← hbs1.out, items_snoc l k hkl _ hx.out]
        simp [itemB])
      have e1 : bs1.length = bs.length + 2 + k * 33 := by
        rw [← hbs1.out]; simp [len_items, len_big]; omega
      have hl1 : Hid (bs1.length + 24 ≤ 140737488355328) := Lib.hid (by have := hlen.out; omega)
      have hl2 : Hid (bs2.length + 1 ≤ 140737488355328) := Lib.hid (by rw [← hbs2.out, List.length_append, len_nums]; have := hlen.out; simp; omega)
      have hl3 : Hid (bs3.length + 8 ≤ 140737488355328) := Lib.hid (by rw [← hbs3.out, ← hbs2.out, List.length_append, List.length_append, len_nums]; have := hlen.out; simp; omega)
      rw [hbs1.out] at hW
      clear e1 hI
      obtain ⟨gb, hgb⟩ : ∃ g, Hid (wr.heap.size = g) := ⟨_, Lib.hid rfl⟩
      obtain ⟨W1, hW1⟩ : ∃ W1, Hid (wr.alloc (.cells #[.int .i64 xc, .int .i64 xv, .int .i64 xl, .bool xw, .int .i64 xn] 86) = W1) := ⟨_, Lib.hid rfl⟩
      have hb1 : Below wr.heap.size wr W1 := by rw [← hW1.out]; exact below_alloc _ _
      obtain ⟨r1, h1, h2⟩ := hW.out
      have hP : Ph w b (blks b r) gb (.cells #[.int .i64 xc, .int .i64 xv, .int .i64 xl, .bool xw, .int .i64 xn] 86 (0, 0)) r1 bs1 bad W1 := ⟨h1.below hb1, h2, hW.keep.trans (.of_below hb1), hW.own, by rw [← hW1.out, ← hgb.out]; exact heap_alloc_new _ _, fun hm => by
        rcases mem_blks.1 hm with hm | hm
        · have := h1.lt.1; have := hgb.out; omega
        · have := h1.lt.2 _ hm; have := hgb.out; omega⟩
      have hS0 := hP.below (below_drew (Below.refl _ _))
      clear h1 h2 hP hb1 hW
      go_wp2_with fail
      rw [hW1.out, hgb.out]
      refine wp_region_last (fun W => Ph w b (blks b r) gb (.cells #[.int .i64 xc, .int .i64 xv, .int .i64 xl, .bool xw, .int .i64 xn] 86 (0, 0)) r1 bs1 bad W) (fun u v => Keep (blks b r1) u v) (fun k u v => ((k = 10) → (fun u v => Keep (blks b r1) u v) u v) ∧ (¬ (k = 10) → (fun u v => Below u.heap.size u v) u v)) (fun a i => match i with
          | 0 => (fun v _ => v = a.tmps.getD 0 undef)
          | 1 => (fun v _ => v = .pointer (some ⟨b, 0, none⟩))
          | 2 => (fun v _ => v = .pointer (some ⟨b, 0, none⟩))
          | 3 => (fun v _ => v = .pointer (some ⟨gb, 0, none⟩))
          | 4 => (fun v _ => v = .int .i64 xc)
          | 5 => (fun v _ => v = .pointer (some ⟨gb, 1, none⟩))
          | 6 => (fun v _ => v = .int .i64 xv)
          | 7 => (fun v _ => v = .pointer (some ⟨gb, 2, none⟩))
          | 8 => (fun v _ => v = .int .i64 xl)
          | 9 => (fun v W => ∃ k, v = .slice (some ⟨k, 0, none⟩) 3 3 ∧ k < W.heap.size ∧ k ∉ blks b r1 ∧ W.heap[k]? = some (.cells #[.int .i64 xc, .int .i64 xv, .int .i64 xl] 3 (0, 0)))
          | 10 => (fun v W => ∃ r', Ph w b (blks b r) gb (.cells #[.int .i64 xc, .int .i64 xv, .int .i64 xl, .bool xw, .int .i64 xn] 86 (0, 0)) r' bs2 bad W)
          | _ => (fun _ _ => True)) #[0, 1, 3, 0, 8, 0, 32, 0, 128, 504, 1023] #[0, 1, 2, 0, 8, 0, 32, 0, 128, 336, 516] 1535 10 (by kernel_rfl) 11 rfl (by kernel_rfl) (fun m hm => by subst hm; kernel_rfl) (by kernel_rfl) (fun w => Keep.refl _ w) (fun u v w h1 h2 => h1.trans h2) ?_ ?_ (hS0) ?_ ?_
      · intro k u v hk hr
        by_cases hs : k = 10
        · have h := hr.1 hs; exact h
        · have h := hr.2 hs; exact Keep.of_below h
      · intro i hi hiz
        rcases (by omega : i = 0 ∨ i = 1 ∨ i = 2 ∨ i = 3 ∨ i = 4 ∨ i = 5 ∨ i = 6 ∨ i = 7 ∨ i = 8 ∨ i = 9 ∨ i = 10) with rfl | rfl | rfl | rfl | rfl | rfl | rfl | rfl | rfl | rfl | rfl
        · intro k hk q hq hqt v w w' h hr
          by_cases hs : k = 10
          · have hr0 := hr.1 hs
            rcases hs with rfl
            · exact (fun (h : _) (hr : _) => by exact h) h hr0
          · have hr := hr.2 hs
            exact h
        · intro k hk q hq hqt v w w' h hr
          by_cases hs : k = 10
          · have hr0 := hr.1 hs
            rcases hs with rfl
            · exact (fun (h : _) (hr : _) => by exact h) h hr0
          · have hr := hr.2 hs
            exact h
        · intro k hk q hq hqt v w w' h hr
          by_cases hs : k = 10
          · have hr0 := hr.1 hs
            rcases hs with rfl
            · exact (fun (h : _) (hr : _) => by exact h) h hr0
          · have hr := hr.2 hs
            exact h
        · intro k hk q hq hqt v w w' h hr
          by_cases hs : k = 10
          · have hr0 := hr.1 hs
            rcases hs with rfl
            · exact (fun (h : _) (hr : _) => by exact h) h hr0
          · have hr := hr.2 hs
            exact h
        · intro k hk q hq hqt v w w' h hr
          by_cases hs : k = 10
          · have hr0 := hr.1 hs
            rcases hs with rfl
            · exact (fun (h : _) (hr : _) => by exact h) h hr0
          · have hr := hr.2 hs
            exact h
        · intro k hk q hq hqt v w w' h hr
          by_cases hs : k = 10
          · have hr0 := hr.1 hs
            rcases hs with rfl
            · exact (fun (h : _) (hr : _) => by exact h) h hr0
          · have hr := hr.2 hs
            exact h
        · intro k hk q hq hqt v w w' h hr
          by_cases hs : k = 10
          · have hr0 := hr.1 hs
            rcases hs with rfl
            · exact (fun (h : _) (hr : _) => by exact h) h hr0
          · have hr := hr.2 hs
            exact h
        · intro k hk q hq hqt v w w' h hr
          by_cases hs : k = 10
          · have hr0 := hr.1 hs
            rcases hs with rfl
            · exact (fun (h : _) (hr : _) => by exact h) h hr0
          · have hr := hr.2 hs
            exact h
        · intro k hk q hq hqt v w w' h hr
          by_cases hs : k = 10
          · have hr0 := hr.1 hs
            rcases hs with rfl
            · exact (fun (h : _) (hr : _) => by exact h) h hr0
          · have hr := hr.2 hs
            exact h
        · intro k hk q hq hqt v w w' h hr
          by_cases hs : k = 10
          · have hr0 := hr.1 hs
            rcases hs with rfl
            · exact absurd (hq.trans hqt) (ne_true_of_eq_false (by kernel_rfl))
          · have hr := hr.2 hs
            obtain ⟨k, h1, h2, h3, h4⟩ := h; exact ⟨k, h1, Nat.lt_of_lt_of_le h2 hr.size, h3, (hr.block k h2).trans h4⟩
        · exact absurd rfl hiz
      · intro i hi
        rcases (by omega : i = 0 ∨ i = 1 ∨ i = 2 ∨ i = 3 ∨ i = 4 ∨ i = 5 ∨ i = 6 ∨ i = 7 ∨ i = 8 ∨ i = 9 ∨ i = 10) with rfl | rfl | rfl | rfl | rfl | rfl | rfl | rfl | rfl | rfl | rfl
        · -- 0: Op.move (Operand.tmp 0)
          intro l hl vs W hS hR hp
          obtain rfl : l = [] := hl.symm.trans (by kernel_rfl)
          clear hp hl
          refine opgoal (_) (some 18) rfl rfl fun K hK => ?_
          refine Runs.mk ?_
          simp only [putAll]
          go_simp
          refine hK _ _ ?_ (fun _ => hS) ⟨fun h => absurd h (by decide), fun _ => ((fun w => Below.refl _ w) W)⟩ _ rfl rfl
          first | rfl | go_simp | simp
        · -- 1: Op.nilCheck (Operand.tmp 18)
          intro l hl vs W hS hR hp
          obtain rfl : l = [(0, 18)] := hl.symm.trans (by kernel_rfl)
          have p0 : vs 0 = _ := hp 0 (by decide) (by decide)
          clear hp hl
          refine opgoal (_) (some 19) rfl rfl fun K hK => ?_
          refine Runs.mk ?_
          simp only [putAll]
          go_simp
          refine hK _ _ ?_ (fun _ => hS) ⟨fun h => absurd h (by decide), fun _ => ((fun w => Below.refl _ w) W)⟩ _ rfl rfl
          first | rfl | go_simp | simp
        · -- 2: Op.fieldAddr 65 (Operand.tmp 19) 0
          intro l hl vs W hS hR hp
          obtain rfl : l = [(0, 18), (1, 19)] := hl.symm.trans (by kernel_rfl)
          have p1 : vs 1 = _ := hp 1 (by decide) (by decide)
          clear hp hl
          refine opgoal (_) (some 20) rfl rfl fun K hK => ?_
          refine Runs.mk ?_
          simp only [putAll]
          go_simp
          refine hK _ _ ?_ (fun _ => hS) ⟨fun h => absurd h (by decide), fun _ => ((fun w => Below.refl _ w) W)⟩ _ rfl rfl
          first | rfl | go_simp | simp
        · -- 3: Op.fieldAddr 86 (Operand.tmp 5) 0
          intro l hl vs W hS hR hp
          obtain rfl : l = [] := hl.symm.trans (by kernel_rfl)
          clear hp hl
          refine opgoal (_) (some 21) rfl rfl fun K hK => ?_
          refine Runs.mk ?_
          simp only [putAll]
          go_simp
          refine hK _ _ ?_ (fun _ => hS) ⟨fun h => absurd h (by decide), fun _ => ((fun w => Below.refl _ w) W)⟩ _ rfl rfl
          first | rfl | go_simp | simp
        · -- 4: Op.load 3 (Operand.tmp 21)
          intro l hl vs W hS hR hp
          obtain rfl : l = [(3, 21)] := hl.symm.trans (by kernel_rfl)
          have p3 : vs 3 = _ := hp 3 (by decide) (by decide)
          clear hp hl
          refine opgoal (_) (some 22) rfl rfl fun K hK => ?_
          obtain ⟨f0, f1, f2, f3, f4⟩ := it_cells hS.blk
          refine Runs.mk ?_
          simp only [putAll]
          go_simp
          refine hK _ _ ?_ (fun _ => hS) ⟨fun h => absurd h (by decide), fun _ => ((fun w => Below.refl _ w) W)⟩ _ rfl rfl
          first | rfl | go_simp | simp
        · -- 5: Op.fieldAddr 86 (Operand.tmp 5) 1
          intro l hl vs W hS hR hp
          obtain rfl : l = [] := hl.symm.trans (by kernel_rfl)
          clear hp hl
          refine opgoal (_) (some 23) rfl rfl fun K hK => ?_
          refine Runs.mk ?_
          simp only [putAll]
          go_simp
          refine hK _ _ ?_ (fun _ => hS) ⟨fun h => absurd h (by decide), fun _ => ((fun w => Below.refl _ w) W)⟩ _ rfl rfl
          first | rfl | go_simp | simp
        · -- 6: Op.load 3 (Operand.tmp 23)
          intro l hl vs W hS hR hp
          obtain rfl : l = [(5, 23)] := hl.symm.trans (by kernel_rfl)
          have p5 : vs 5 = _ := hp 5 (by decide) (by decide)
          clear hp hl
          refine opgoal (_) (some 24) rfl rfl fun K hK => ?_
          obtain ⟨f0, f1, f2, f3, f4⟩ := it_cells hS.blk
          refine Runs.mk ?_
          simp only [putAll]
          go_simp
          refine hK _ _ ?_ (fun _ => hS) ⟨fun h => absurd h (by decide), fun _ => ((fun w => Below.refl _ w) W)⟩ _ rfl rfl
          first | rfl | go_simp | simp
        · -- 7: Op.fieldAddr 86 (Operand.tmp 5) 2
          intro l hl vs W hS hR hp
          obtain rfl : l = [] := hl.symm.trans (by kernel_rfl)
          clear hp hl
          refine opgoal (_) (some 25) rfl rfl fun K hK => ?_
          refine Runs.mk ?_
          simp only [putAll]
          go_simp
          refine hK _ _ ?_ (fun _ => hS) ⟨fun h => absurd h (by decide), fun _ => ((fun w => Below.refl _ w) W)⟩ _ rfl rfl
          first | rfl | go_simp | simp
        · -- 8: Op.load 3 (Operand.tmp 25)
          intro l hl vs W hS hR hp
          obtain rfl : l = [(7, 25)] := hl.symm.trans (by kernel_rfl)
          have p7 : vs 7 = _ := hp 7 (by decide) (by decide)
          clear hp hl
          refine opgoal (_) (some 26) rfl rfl fun K hK => ?_
          obtain ⟨f0, f1, f2, f3, f4⟩ := it_cells hS.blk
          refine Runs.mk ?_
          simp only [putAll]
          go_simp
          refine hK _ _ ?_ (fun _ => hS) ⟨fun h => absurd h (by decide), fun _ => ((fun w => Below.refl _ w) W)⟩ _ rfl rfl
          first | rfl | go_simp | simp
        · -- 9: Op.buildSlice 55 3 #[(0, Operand.tmp 22), (1, Operand.tmp 24), (2, Operand.tmp 26)]
          intro l hl vs W hS hR hp
          obtain rfl : l = [(3, 21), (4, 22), (5, 23), (6, 24), (7, 25), (8, 26)] := hl.symm.trans (by kernel_rfl)
          have p4 : vs 4 = _ := hp 4 (by decide) (by decide)
          have p6 : vs 6 = _ := hp 6 (by decide) (by decide)
          have p8 : vs 8 = _ := hp 8 (by decide) (by decide)
          clear hp hl
          refine opgoal (_) (some 27) rfl rfl fun K hK => ?_
          refine Runs.mk ?_
          simp only [putAll]
          go_simp
          have hb := below_alloc W (.cells #[.int .i64 xc, .int .i64 xv, .int .i64 xl] 3)
          exact hK _ _ ⟨W.heap.size, rfl, by simp, fun hm => Nat.lt_irrefl _ (hS.wr.lts _ hm), heap_alloc_new _ _⟩ (fun _ => hS.below hb) ⟨fun h => absurd h (by decide), fun _ => hb⟩ _ rfl rfl
        · -- 10: Op.call { callee := Callee.value (Operand.func 76), args := #[Operand.tmp 20, Operand.tmp 27], argTypes := #[30, 55] }
          intro l hl vs W hS hR hp
          obtain rfl : l = [(0, 18), (1, 19), (2, 20), (3, 21), (4, 22), (5, 23), (6, 24), (7, 25), (8, 26), (9, 27)] := hl.symm.trans (by kernel_rfl)
          have p2 : vs 2 = _ := hp 2 (by decide) (by decide)
          have p9 : (fun v W => ∃ k, v = .slice (some ⟨k, 0, none⟩) 3 3 ∧ k < W.heap.size ∧ k ∉ blks b r1 ∧ W.heap[k]? = some (.cells #[.int .i64 xc, .int .i64 xv, .int .i64 xl] 3 (0, 0))) (vs 9) W := hp 9 (by decide) (by decide)
          dsimp only at p9
          clear hp hl
          obtain ⟨k, q9, l9, n9, b9⟩ := p9
          refine opgoal (_) (some 28) rfl rfl fun K hK => ?_
          refine Runs.mk ?_
          simp only [putAll]
          go_simp
          refine (nums_any b r1 bs1 bad [xc, xv, xl] (some ⟨k, 0, none⟩) 3 3 W hS.wr (rd_ints 3 b9 (by simp) rfl (by decide)) (fun _ o ho => by injection ho with ho; subst ho; exact n9) (by simpa using hl1.out)).mono ?_
          rintro e w' ⟨rfl, hw⟩
          rw [hbs2.out] at hw
          go_simp
          exact hK _ _ (hS.step hw) (fun h => absurd rfl h) ⟨fun _ => hw.keep, fun h => absurd (by decide) h⟩ _ rfl rfl
      · intro l hl vs W hR hp
        obtain rfl : l = [(0, 18), (1, 19), (2, 20), (3, 21), (4, 22), (5, 23), (6, 24), (7, 25), (8, 26), (9, 27), (10, 28)] := hl.symm.trans (by kernel_rfl)
        have p0 : vs 0 = _ := hp 0 (by decide) (by decide)
        have p1 : vs 1 = _ := hp 1 (by decide) (by decide)
        have p2 : vs 2 = _ := hp 2 (by decide) (by decide)
        have p3 : vs 3 = _ := hp 3 (by decide) (by decide)
        have p4 : vs 4 = _ := hp 4 (by decide) (by decide)
        have p5 : vs 5 = _ := hp 5 (by decide) (by decide)
        have p6 : vs 6 = _ := hp 6 (by decide) (by decide)
        have p7 : vs 7 = _ := hp 7 (by decide) (by decide)
        have p8 : vs 8 = _ := hp 8 (by decide) (by decide)
        have p10 : (fun v W => ∃ r', Ph w b (blks b r) gb (.cells #[.int .i64 xc, .int .i64 xv, .int .i64 xl, .bool xw, .int .i64 xn] 86 (0, 0)) r' bs2 bad W) (vs 10) W := hp 10 (by decide) (by decide)
        dsimp only at p10
        clear hp hl
        simp only [putAll_mk, setAll, List.setIfInBounds_toArray, List.set_cons_succ, List.set_cons_zero, p0, p1, p2, p3, p4, p5, p6, p7, p8]
        obtain ⟨r2, h2⟩ := p10
        have hS0 := h2.below (below_drew (Below.refl _ _))
        clear hR h2
        go_wp2_with fail
        refine wp_region_last (fun W => Ph w b (blks b r) gb (.cells #[.int .i64 xc, .int .i64 xv, .int .i64 xl, .bool xw, .int .i64 xn] 86 (0, 0)) r2 bs2 bad W) (fun u v => Keep (blks b r2) u v) (fun k u v => ((k = 5) → (fun u v => Keep (blks b r2) u v) u v) ∧ (¬ (k = 5) → (fun u v => Below u.heap.size u v) u v)) (fun a i => match i with
            | 0 => (fun v _ => v = a.tmps.getD 0 undef)
            | 1 => (fun v _ => v = .pointer (some ⟨b, 0, none⟩))
            | 2 => (fun v _ => v = .pointer (some ⟨b, 0, none⟩))
            | 3 => (fun v _ => v = .pointer (some ⟨gb, 3, none⟩))
            | 4 => (fun v _ => v = .bool xw)
            | 5 => (fun v W => ∃ r', Ph w b (blks b r) gb (.cells #[.int .i64 xc, .int .i64 xv, .int .i64 xl, .bool xw, .int .i64 xn] 86 (0, 0)) r' bs3 bad W)
            | _ => (fun _ _ => True)) #[0, 1, 3, 0, 8, 31] #[0, 1, 2, 0, 8, 20] 63 5 (by kernel_rfl) 6 rfl (by kernel_rfl) (fun m hm => by subst hm; kernel_rfl) (by kernel_rfl) (fun w => Keep.refl _ w) (fun u v w h1 h2 => h1.trans h2) ?_ ?_ (hS0) ?_ ?_
        · intro k u v hk hr
          by_cases hs : k = 5
          · have h := hr.1 hs; exact h
          · have h := hr.2 hs; exact Keep.of_below h
        · intro i hi hiz
          rcases (by omega : i = 0 ∨ i = 1 ∨ i = 2 ∨ i = 3 ∨ i = 4 ∨ i = 5) with rfl | rfl | rfl | rfl | rfl | rfl
          · intro k hk q hq hqt v w w' h hr
            by_cases hs : k = 5
            · have hr0 := hr.1 hs
              rcases hs with rfl
              · exact (fun (h : _) (hr : _) => by exact h) h hr0
            · have hr := hr.2 hs
              exact h
          · intro k hk q hq hqt v w w' h hr
            by_cases hs : k = 5
            · have hr0 := hr.1 hs
              rcases hs with rfl
              · exact (fun (h : _) (hr : _) => by exact h) h hr0
            · have hr := hr.2 hs
              exact h
          · intro k hk q hq hqt v w w' h hr
            by_cases hs : k = 5
            · have hr0 := hr.1 hs
              rcases hs with rfl
              · exact (fun (h : _) (hr : _) => by exact h) h hr0
            · have hr := hr.2 hs
              exact h
          · intro k hk q hq hqt v w w' h hr
            by_cases hs : k = 5
            · have hr0 := hr.1 hs
              rcases hs with rfl
              · exact (fun (h : _) (hr : _) => by exact h) h hr0
            · have hr := hr.2 hs
              exact h
          · intro k hk q hq hqt v w w' h hr
            by_cases hs : k = 5
            · have hr0 := hr.1 hs
              rcases hs with rfl
              · exact (fun (h : _) (hr : _) => by exact h) h hr0
            · have hr := hr.2 hs
              exact h
          · exact absurd rfl hiz
        · intro i hi
          rcases (by omega : i = 0 ∨ i = 1 ∨ i = 2 ∨ i = 3 ∨ i = 4 ∨ i = 5) with rfl | rfl | rfl | rfl | rfl | rfl
          · -- 0: Op.move (Operand.tmp 0)
            intro l hl vs W hS hR hp
            obtain rfl : l = [] := hl.symm.trans (by kernel_rfl)
            clear hp hl
            refine opgoal (_) (some 29) rfl rfl fun K hK => ?_
            refine Runs.mk ?_
            simp only [putAll]
            go_simp
            refine hK _ _ ?_ (fun _ => hS) ⟨fun h => absurd h (by decide), fun _ => ((fun w => Below.refl _ w) W)⟩ _ rfl rfl
            first | rfl | go_simp | simp
          · -- 1: Op.nilCheck (Operand.tmp 29)
            intro l hl vs W hS hR hp
            obtain rfl : l = [(0, 29)] := hl.symm.trans (by kernel_rfl)
            have p0 : vs 0 = _ := hp 0 (by decide) (by decide)
            clear hp hl
            refine opgoal (_) (some 30) rfl rfl fun K hK => ?_
            refine Runs.mk ?_
            simp only [putAll]
            go_simp
            refine hK _ _ ?_ (fun _ => hS) ⟨fun h => absurd h (by decide), fun _ => ((fun w => Below.refl _ w) W)⟩ _ rfl rfl
            first | rfl | go_simp | simp
          · -- 2: Op.fieldAddr 65 (Operand.tmp 30) 0
            intro l hl vs W hS hR hp
            obtain rfl : l = [(0, 29), (1, 30)] := hl.symm.trans (by kernel_rfl)
            have p1 : vs 1 = _ := hp 1 (by decide) (by decide)
            clear hp hl
            refine opgoal (_) (some 31) rfl rfl fun K hK => ?_
            refine Runs.mk ?_
            simp only [putAll]
            go_simp
            refine hK _ _ ?_ (fun _ => hS) ⟨fun h => absurd h (by decide), fun _ => ((fun w => Below.refl _ w) W)⟩ _ rfl rfl
            first | rfl | go_simp | simp
          · -- 3: Op.fieldAddr 86 (Operand.tmp 5) 3
            intro l hl vs W hS hR hp
            obtain rfl : l = [] := hl.symm.trans (by kernel_rfl)
            clear hp hl
            refine opgoal (_) (some 32) rfl rfl fun K hK => ?_
            refine Runs.mk ?_
            simp only [putAll]
            go_simp
            refine hK _ _ ?_ (fun _ => hS) ⟨fun h => absurd h (by decide), fun _ => ((fun w => Below.refl _ w) W)⟩ _ rfl rfl
            first | rfl | go_simp | simp
          · -- 4: Op.load 4 (Operand.tmp 32)
            intro l hl vs W hS hR hp
            obtain rfl : l = [(3, 32)] := hl.symm.trans (by kernel_rfl)
            have p3 : vs 3 = _ := hp 3 (by decide) (by decide)
            clear hp hl
            refine opgoal (_) (some 33) rfl rfl fun K hK => ?_
            obtain ⟨f0, f1, f2, f3, f4⟩ := it_cells hS.blk
            refine Runs.mk ?_
            simp only [putAll]
            go_simp
            refine hK _ _ ?_ (fun _ => hS) ⟨fun h => absurd h (by decide), fun _ => ((fun w => Below.refl _ w) W)⟩ _ rfl rfl
            first | rfl | go_simp | simp
          · -- 5: Op.call { callee := Callee.value (Operand.func 79), args := #[Operand.tmp 31, Operand.tmp 33], argTypes := #[30, 4] }
            intro l hl vs W hS hR hp
            obtain rfl : l = [(0, 29), (1, 30), (2, 31), (3, 32), (4, 33)] := hl.symm.trans (by kernel_rfl)
            have p2 : vs 2 = _ := hp 2 (by decide) (by decide)
            have p4 : vs 4 = _ := hp 4 (by decide) (by decide)
            clear hp hl
            refine opgoal (_) (some 34) rfl rfl fun K hK => ?_
            refine Runs.mk ?_
            simp only [putAll]
            go_simp
            refine (bool_any b r2 bs2 bad xw W hS.wr hl2.out).mono ?_
            rintro e w' ⟨rfl, hw⟩
            rw [hbs3.out] at hw
            go_simp
            exact hK _ _ (hS.step hw) (fun h => absurd rfl h) ⟨fun _ => hw.keep, fun h => absurd (by decide) h⟩ _ rfl rfl
        · intro l hl vs W hR hp
          obtain rfl : l = [(0, 29), (1, 30), (2, 31), (3, 32), (4, 33), (5, 34)] := hl.symm.trans (by kernel_rfl)
          have p0 : vs 0 = _ := hp 0 (by decide) (by decide)
          have p1 : vs 1 = _ := hp 1 (by decide) (by decide)
          have p2 : vs 2 = _ := hp 2 (by decide) (by decide)
          have p3 : vs 3 = _ := hp 3 (by decide) (by decide)
          have p4 : vs 4 = _ := hp 4 (by decide) (by decide)
          have p5 : (fun v W => ∃ r', Ph w b (blks b r) gb (.cells #[.int .i64 xc, .int .i64 xv, .int .i64 xl, .bool xw, .int .i64 xn] 86 (0, 0)) r' bs3 bad W) (vs 5) W := hp 5 (by decide) (by decide)
          dsimp only at p5
          clear hp hl
          simp only [putAll_mk, setAll, List.setIfInBounds_toArray, List.set_cons_succ, List.set_cons_zero, p0, p1, p2, p3, p4]
          obtain ⟨r3, h2⟩ := p5
          have hS0 := h2.below (below_drew (Below.refl _ _))
          clear hR h2
          go_wp2_with fail
          refine wp_region_last (fun W => Ph w b (blks b r) gb (.cells #[.int .i64 xc, .int .i64 xv, .int .i64 xl, .bool xw, .int .i64 xn] 86 (0, 0)) r3 bs3 bad W) (fun u v => Keep (blks b r3) u v) (fun k u v => ((k = 6) → (fun u v => Keep (blks b r3) u v) u v) ∧ (¬ (k = 6) → (fun u v => Below u.heap.size u v) u v)) (fun a i => match i with
              | 0 => (fun v _ => v = a.tmps.getD 0 undef)
              | 1 => (fun v _ => v = .pointer (some ⟨b, 0, none⟩))
              | 2 => (fun v _ => v = .pointer (some ⟨b, 0, none⟩))
              | 3 => (fun v _ => v = .pointer (some ⟨gb, 4, none⟩))
              | 4 => (fun v _ => v = .int .i64 xn)
              | 5 => (fun v W => ∃ k, v = .slice (some ⟨k, 0, none⟩) 1 1 ∧ k < W.heap.size ∧ k ∉ blks b r3 ∧ W.heap[k]? = some (.cells #[.int .i64 xn] 3 (0, 0)))
              | 6 => (fun v W => ∃ r', Ph w b (blks b r) gb (.cells #[.int .i64 xc, .int .i64 xv, .int .i64 xl, .bool xw, .int .i64 xn] 86 (0, 0)) r' bs4 bad W)
              | _ => (fun _ _ => True)) #[0, 1, 3, 0, 8, 24, 63] #[0, 1, 2, 0, 8, 16, 36] 95 6 (by kernel_rfl) 7 rfl (by kernel_rfl) (fun m hm => by subst hm; kernel_rfl) (by kernel_rfl) (fun w => Keep.refl _ w) (fun u v w h1 h2 => h1.trans h2) ?_ ?_ (hS0) ?_ ?_
          · intro k u v hk hr
            by_cases hs : k = 6
            · have h := hr.1 hs; exact h
            · have h := hr.2 hs; exact Keep.of_below h
          · intro i hi hiz
            rcases (by omega : i = 0 ∨ i = 1 ∨ i = 2 ∨ i = 3 ∨ i = 4 ∨ i = 5 ∨ i = 6) with rfl | rfl | rfl | rfl | rfl | rfl | rfl
            · intro k hk q hq hqt v w w' h hr
              by_cases hs : k = 6
              · have hr0 := hr.1 hs
                rcases hs with rfl
                · exact (fun (h : _) (hr : _) => by exact h) h hr0
              · have hr := hr.2 hs
                exact h
            · intro k hk q hq hqt v w w' h hr
              by_cases hs : k = 6
              · have hr0 := hr.1 hs
                rcases hs with rfl
                · exact (fun (h : _) (hr : _) => by exact h) h hr0
              · have hr := hr.2 hs
                exact h
            · intro k hk q hq hqt v w w' h hr
              by_cases hs : k = 6
              · have hr0 := hr.1 hs
                rcases hs with rfl
                · exact (fun (h : _) (hr : _) => by exact h) h hr0
              · have hr := hr.2 hs
                exact h
            · intro k hk q hq hqt v w w' h hr
              by_cases hs : k = 6
              · have hr0 := hr.1 hs
                rcases hs with rfl
                · exact (fun (h : _) (hr : _) => by exact h) h hr0
              · have hr := hr.2 hs
                exact h
            · intro k hk q hq hqt v w w' h hr
              by_cases hs : k = 6
              · have hr0 := hr.1 hs
                rcases hs with rfl
                · exact (fun (h : _) (hr : _) => by exact h) h hr0
              · have hr := hr.2 hs
                exact h
            · intro k hk q hq hqt v w w' h hr
              by_cases hs : k = 6
              · have hr0 := hr.1 hs
                rcases hs with rfl
                · exact absurd (hq.trans hqt) (ne_true_of_eq_false (by kernel_rfl))
              · have hr := hr.2 hs
                obtain ⟨k, h1, h2, h3, h4⟩ := h; exact ⟨k, h1, Nat.lt_of_lt_of_le h2 hr.size, h3, (hr.block k h2).trans h4⟩
            · exact absurd rfl hiz
          · intro i hi
            rcases (by omega : i = 0 ∨ i = 1 ∨ i = 2 ∨ i = 3 ∨ i = 4 ∨ i = 5 ∨ i = 6) with rfl | rfl | rfl | rfl | rfl | rfl | rfl
            · -- 0: Op.move (Operand.tmp 0)
              intro l hl vs W hS hR hp
              obtain rfl : l = [] := hl.symm.trans (by kernel_rfl)
              clear hp hl
              refine opgoal (_) (some 35) rfl rfl fun K hK => ?_
              refine Runs.mk ?_
              simp only [putAll]
              go_simp
              refine hK _ _ ?_ (fun _ => hS) ⟨fun h => absurd h (by decide), fun _ => ((fun w => Below.refl _ w) W)⟩ _ rfl rfl
              first | rfl | go_simp | simp
            · -- 1: Op.nilCheck (Operand.tmp 35)
              intro l hl vs W hS hR hp
              obtain rfl : l = [(0, 35)] := hl.symm.trans (by kernel_rfl)
              have p0 : vs 0 = _ := hp 0 (by decide) (by decide)
              clear hp hl
              refine opgoal (_) (some 36) rfl rfl fun K hK => ?_
              refine Runs.mk ?_
              simp only [putAll]
              go_simp
              refine hK _ _ ?_ (fun _ => hS) ⟨fun h => absurd h (by decide), fun _ => ((fun w => Below.refl _ w) W)⟩ _ rfl rfl
              first | rfl | go_simp | simp
            · -- 2: Op.fieldAddr 65 (Operand.tmp 36) 0
              intro l hl vs W hS hR hp
              obtain rfl : l = [(0, 35), (1, 36)] := hl.symm.trans (by kernel_rfl)
              have p1 : vs 1 = _ := hp 1 (by decide) (by decide)
              clear hp hl
              refine opgoal (_) (some 37) rfl rfl fun K hK => ?_
              refine Runs.mk ?_
              simp only [putAll]
              go_simp
              refine hK _ _ ?_ (fun _ => hS) ⟨fun h => absurd h (by decide), fun _ => ((fun w => Below.refl _ w) W)⟩ _ rfl rfl
              first | rfl | go_simp | simp
            · -- 3: Op.fieldAddr 86 (Operand.tmp 5) 4
              intro l hl vs W hS hR hp
              obtain rfl : l = [] := hl.symm.trans (by kernel_rfl)
              clear hp hl
              refine opgoal (_) (some 38) rfl rfl fun K hK => ?_
              refine Runs.mk ?_
              simp only [putAll]
              go_simp
              refine hK _ _ ?_ (fun _ => hS) ⟨fun h => absurd h (by decide), fun _ => ((fun w => Below.refl _ w) W)⟩ _ rfl rfl
              first | rfl | go_simp | simp
            · -- 4: Op.load 3 (Operand.tmp 38)
              intro l hl vs W hS hR hp
              obtain rfl : l = [(3, 38)] := hl.symm.trans (by kernel_rfl)
              have p3 : vs 3 = _ := hp 3 (by decide) (by decide)
              clear hp hl
              refine opgoal (_) (some 39) rfl rfl fun K hK => ?_
              obtain ⟨f0, f1, f2, f3, f4⟩ := it_cells hS.blk
              refine Runs.mk ?_
              simp only [putAll]
              go_simp
              refine hK _ _ ?_ (fun _ => hS) ⟨fun h => absurd h (by decide), fun _ => ((fun w => Below.refl _ w) W)⟩ _ rfl rfl
              first | rfl | go_simp | simp
            · -- 5: Op.buildSlice 55 1 #[(0, Operand.tmp 39)]
              intro l hl vs W hS hR hp
              obtain rfl : l = [(3, 38), (4, 39)] := hl.symm.trans (by kernel_rfl)
              have p4 : vs 4 = _ := hp 4 (by decide) (by decide)
              clear hp hl
              refine opgoal (_) (some 40) rfl rfl fun K hK => ?_
              refine Runs.mk ?_
              simp only [putAll]
              go_simp
              have hb := below_alloc W (.cells #[.int .i64 xn] 3)
              exact hK _ _ ⟨W.heap.size, rfl, by simp, fun hm => Nat.lt_irrefl _ (hS.wr.lts _ hm), heap_alloc_new _ _⟩ (fun _ => hS.below hb) ⟨fun h => absurd h (by decide), fun _ => hb⟩ _ rfl rfl
            · -- 6: Op.call { callee := Callee.value (Operand.func 76), args := #[Operand.tmp 37, Operand.tmp 40], argTypes := #[30, 55] }
              intro l hl vs W hS hR hp
              obtain rfl : l = [(0, 35), (1, 36), (2, 37), (3, 38), (4, 39), (5, 40)] := hl.symm.trans (by kernel_rfl)
              have p2 : vs 2 = _ := hp 2 (by decide) (by decide)
              have p5 : (fun v W => ∃ k, v = .slice (some ⟨k, 0, none⟩) 1 1 ∧ k < W.heap.size ∧ k ∉ blks b r3 ∧ W.heap[k]? = some (.cells #[.int .i64 xn] 3 (0, 0))) (vs 5) W := hp 5 (by decide) (by decide)
              dsimp only at p5
              clear hp hl
              obtain ⟨k, q9, l9, n9, b9⟩ := p5
              refine opgoal (_) (some 41) rfl rfl fun K hK => ?_
              refine Runs.mk ?_
              simp only [putAll]
              go_simp
              refine (nums_any b r3 bs3 bad [xn] (some ⟨k, 0, none⟩) 1 1 W hS.wr (rd_ints 1 b9 (by simp) rfl (by decide)) (fun _ o ho => by injection ho with ho; subst ho; exact n9) (by simpa using hl3.out)).mono ?_
              rintro e w' ⟨rfl, hw⟩
              rw [hbs4.out] at hw
              go_simp
              exact hK _ _ (hS.step hw) (fun h => absurd rfl h) ⟨fun _ => hw.keep, fun h => absurd (by decide) h⟩ _ rfl rfl
          · intro l hl vs W hR hp
            obtain rfl : l = [(0, 35), (1, 36), (2, 37), (3, 38), (4, 39), (5, 40), (6, 41)] := hl.symm.trans (by kernel_rfl)
            have p0 : vs 0 = _ := hp 0 (by decide) (by decide)
            have p1 : vs 1 = _ := hp 1 (by decide) (by decide)
            have p2 : vs 2 = _ := hp 2 (by decide) (by decide)
            have p3 : vs 3 = _ := hp 3 (by decide) (by decide)
            have p4 : vs 4 = _ := hp 4 (by decide) (by decide)
            have p6 : (fun v W => ∃ r', Ph w b (blks b r) gb (.cells #[.int .i64 xc, .int .i64 xv, .int .i64 xl, .bool xw, .int .i64 xn] 86 (0, 0)) r' bs4 bad W) (vs 6) W := hp 6 (by decide) (by decide)
            dsimp only at p6
            clear hp hl
            simp only [putAll_mk, setAll, List.setIfInBounds_toArray, List.set_cons_succ, List.set_cons_zero, p0, p1, p2, p3, p4]
            obtain ⟨r4, h2⟩ := p6
            have HE := Lib.hid h2.wrs
            clear hR h2
            go_wp2
            go_roundw
            case rel => exact ⟨k + 1, by omega, by go_num, by rw [hnext.out]; exact HE.out⟩
            case measure => simp [intOf]; omega
    · have hkn : n = k := by omega
      have hres : Hid (Wrs w b (blks b r) (bs ++ (bigB n 2 ++ itemsB l)) bad wr) := Lib.hid (by
        rw [List.take_of_length_le (by have := HN.out; omega)] at hW; exact hW)
      go_wp2
      go_end0
      exact ⟨rfl, hres.out⟩
end Go.Proofs.Ytfpocddpnoighaa.It

/- WireNone, WireBreaks: the walks. -/
namespace Go.Proofs.Ytfpocddpnoighaa.Wr
open Go.RowKit Go.Proofs.Ytfpocddpnoighaa.L Go.Proofs.Ytfpocddpnoighaa.A Go.Proofs.Ytfpocddpnoighaa.S Go.Proofs.Ytfpocddpnoighaa.T Go.Proofs.Ytfpocddpnoighaa.O Go.Proofs.Ytfpocddpnoighaa.E
set_option linter.unusedVariables false
set_option linter.unusedSimpArgs false

theorem th_refl' (d : Nat) (k n : Int) (s : ByteArray) (w : World) : (Op.equalIn (d + 4) 32 (.agg #[.int .i64 k, .int .i64 n, .string s]) (.agg #[.int .i64 k, .int .i64 n, .string s])).run Try.prog w = .ok true w := by
  have hp : Try.prog.stoodInHeld 32 = false := by kernel_rfl
  have hf : Try.prog.underlying 32 = some (.struct (Try.prog.fieldsOf 32)) := by kernel_rfl
  rw [run_equalIn_agg w _ _ _ _ hf hp]
  clear hf hp
  go_simp
theorem th_refl (k n : Int) (s : ByteArray) (w : World) : (Op.equalIn 10000 32 (.agg #[.int .i64 k, .int .i64 n, .string s]) (.agg #[.int .i64 k, .int .i64 n, .string s])).run Try.prog w = .ok true w := th_refl' 9996 k n s w
theorem th_guard : Try.prog.eqGuardType Try.prog.depth 32 = false := by kernel_rfl

set_option maxHeartbeats 1000000 in
theorem bool_nil (w : World) : Calls Try.prog 83 #[.pointer none] w fun e w' => e = .returned (.bool false) ∧ w = w' := by
  go_enter Try.func83, Try.ntmps83
  go_wp2_with fail
  refine (byte_nil w).mono ?_
  rintro e w1 ⟨rfl, rfl⟩
  go_wp2
  go_ret
  exact ⟨rfl, rfl⟩
theorem get_nil (k : Nat) (hk : k ≤ 4) (w : World) : Calls Try.prog 25 #[.pointer none, .int .i64 k] w fun e w' => e = .returned (.agg #[.int .i64 k, .int .i64 0, .string ⟨#[]⟩]) ∧ Below w.heap.size w w' := by
  have key : ∀ {P : Prop} {w' : World}, True ∧ Keep [] w w' → Below w.heap.size w w' := fun h => h.2.below (Nat.le_refl _) (by simp)
  rcases (by omega : k = 0 ∨ k = 1 ∨ k = 2 ∨ k = 3 ∨ k = 4) with rfl | rfl | rfl | rfl | rfl
  · exact (get0 none [] 0 (by omega) (fun _ => True) w (fun W _ => (byte_nil W).mono fun e w' ⟨he, hw⟩ => ⟨he, trivial, hw ▸ Keep.refl _ _⟩) (by simp) (fun _ _ _ _ => trivial)).mono fun e w' ⟨he, h⟩ => ⟨he, key (P := True) h⟩
  · exact (get1f none [] (fun _ => True) w (fun W _ => (bool_nil W).mono fun e w' ⟨he, hw⟩ => ⟨he, trivial, hw ▸ Keep.refl _ _⟩) (by simp) (fun _ _ _ _ => trivial)).mono fun e w' ⟨he, h⟩ => ⟨he, key (P := True) h⟩
  · exact (get2 none [] 0 (fun _ => True) w (fun W _ => (count_nil W).mono fun e w' ⟨he, hw⟩ => ⟨he, trivial, hw ▸ Keep.refl _ _⟩) (by simp) (fun _ _ _ _ => trivial)).mono fun e w' ⟨he, h⟩ => ⟨he, key (P := True) h⟩
  · exact (get3 none [] 0 (fun _ => True) w (fun W _ => (num_nil W).mono fun e w' ⟨he, hw⟩ => ⟨he, trivial, hw ▸ Keep.refl _ _⟩) (by simp) (fun _ _ _ _ => trivial)).mono fun e w' ⟨he, h⟩ => ⟨he, key (P := True) h⟩
  · exact (get4 none [] ⟨#[]⟩ (fun _ => True) w (fun W _ => (text_nil W).mono fun e w' ⟨he, hw⟩ => ⟨he, trivial, hw ▸ Keep.refl _ _⟩) (by simp) (fun _ _ _ _ => trivial)).mono fun e w' ⟨he, h⟩ => ⟨he, key (P := True) h⟩
set_option maxHeartbeats 1000000 in
theorem none_walk (k : Nat) (hk : k < 256) (w : World) : Calls Try.prog 4 #[.int .u8 k] w fun e w' => e = .returned (.bool true) ∧ Below w.heap.size w w' := by
  obtain ⟨r, hr⟩ : ∃ r : Nat, k % 5 = r := ⟨_, rfl⟩
  have hr4 : r ≤ 4 := by omega
  have hri : (k : Int) % 5 = (r : Int) := by omega
  have hm := th_guard
  by_cases h1 : r = 1
  · subst h1
    go_enter Try.func4, Try.ntmps4
    go_wp2_with fail
    refine (awake_any w).mono ?_
    rintro e w1 ⟨rfl, hb1⟩
    go_wp2_with fail
    refine (left_nil w1).mono ?_
    rintro e w2 ⟨rfl, rfl⟩
    go_wp2
    go_ret
    exact ⟨rfl, hb1⟩
  · have h1' : ((r : Int) == 1) = false := by simp; omega
    have heq := th_refl r 0 ⟨#[]⟩
    clear hr h1
    go_enter Try.func4, Try.ntmps4
    go_wp2_with fail
    refine (awake_any w).mono ?_
    rintro e w1 ⟨rfl, hb1⟩
    go_wp2_with fail
    refine (get_nil r hr4 w1).mono ?_
    rintro e w2 ⟨rfl, hb2⟩
    go_wp2_with fail
    refine (left_nil w2).mono ?_
    rintro e w3 ⟨rfl, rfl⟩
    go_wp2_with fail
    refine (end_nil w2).mono ?_
    rintro e w3 ⟨rfl, rfl⟩
    go_wp2
    go_ret
    exact ⟨rfl, below2 hb1 hb2⟩
theorem none_row (w : World) (k : Int) (hk : (Lit.int .u8 k).wf = true) : Calls Try.prog 4 #[.int .u8 k] w fun e w' => e = .returned (.bool true) ∧ Below w.heap.size w w' := by
  have hw := u8_wf hk
  obtain ⟨m, rfl⟩ : ∃ m : Nat, k = (m : Int) := ⟨k.toNat, by omega⟩
  exact none_walk m (by omega) w

theorem takeT_broken (n : Nat) (s : ByteArray) : takeT n s true = ⟨#[]⟩ := rfl
theorem numT_broken (n : Nat) (s : ByteArray) : numT n s true = 0 := rfl
theorem get_broken (k : Nat) (hk : k ≤ 4) (b : Nat) (s : ByteArray) (hs : s.size ≤ 9223372036854775807) (w : World) (h : Rdr w b s true) : Calls Try.prog 25 #[.pointer (some ⟨b, 0, none⟩), .int .i64 k] w fun e w' => e = .returned (.agg #[.int .i64 k, .int .i64 0, .string ⟨#[]⟩]) ∧ Rds w b s true w' := by
  have hb := h.lt
  have hG : ∀ u v, Rdr u b s true → Keep [w.heap.size, w.heap.size + 1] u v → Rdr v b s true := fun u v h hk => h.keep hk (by simp; omega)
  have hS : ∀ k ∈ [b], k < w.heap.size := by simpa using hb
  have hz : wrap64 ((0 : Nat) : Int) = 0 := by kernel_rfl
  rcases (by omega : k = 0 ∨ k = 1 ∨ k = 2 ∨ k = 3 ∨ k = 4) with rfl | rfl | rfl | rfl | rfl
  · exact get0 _ [b] 0 (by omega) (fun u => Rdr u b s true) w (fun W hW => byte_read b s true W (h.below hW) hs) hS hG
  · exact get1f _ [b] (fun u => Rdr u b s true) w (fun W hW => bool_read b s true W (h.below hW) hs) hS hG
  · exact get2 _ [b] 0 (fun u => Rdr u b s true) w (fun W hW => count_read b s true W (h.below hW) hs) hS hG
  · refine (get3 _ [b] (wrap64 ((0 : Nat) : Int)) (fun u => Rdr u b s true) w (fun W hW => (num_read b s true W (h.below hW) hs).mono fun e w' ⟨he, h⟩ => ⟨he, h⟩) hS hG).mono fun e w' ⟨he, h⟩ => ⟨by rw [he, hz]; rfl, h⟩
  · exact get4 _ [b] ⟨#[]⟩ (fun u => Rdr u b s true) w (fun W hW => text_read b s true W (h.below hW) hs s true 0 rfl rfl rfl) hS hG
set_option maxHeartbeats 2000000 in
set_option maxRecDepth 100000 in
theorem breaks_walk (s : ByteArray) (hs : s.size ≤ 9223372036854775807) (k : Nat) (hk : k < 256) (w : World) : Calls Try.prog 5 #[.string s, .int .u8 k] w fun e w' => e = .returned (.bool true) ∧ Below w.heap.size w w' := by
  obtain ⟨r, hr⟩ : ∃ r : Nat, k % 5 = r := ⟨_, rfl⟩
  have hr4 : r ≤ 4 := by omega
  have hri : (k : Int) % 5 = (r : Int) := by omega
  have hm := th_guard
  have heq := th_refl r 0 ⟨#[]⟩
  clear hr
  by_cases hbig : 100000 < s.size
  · have hbig' : (100000 : Int) < (s.size : Nat) := by omega
    go_enter Try.func5, Try.ntmps5
    go_wp2_with fail
    refine (awake_any w).mono ?_
    rintro e w1 ⟨rfl, hb1⟩
    go_wp2
    go_ret
    exact ⟨rfl, hb1⟩
  · have hbig' : ¬ (100000 : Int) < (s.size : Nat) := by omega
    go_enter Try.func5, Try.ntmps5
    go_wp2_with fail
    refine (awake_any w).mono ?_
    rintro e w1 ⟨rfl, hb1⟩
    obtain ⟨b, hb⟩ : ∃ b, Hid (w1.heap.size = b) := ⟨_, Lib.hid rfl⟩
    have hbl : Hid (w1.heap.size ≤ b) := Lib.hid (Nat.le_of_eq hb.out)
    go_wp2_with fail
    refine (newreader_any s w1).mono ?_
    rintro e w2 ⟨rfl, hw2⟩
    have hR := rdr_new w1 s
    have hb2 := below_alloc w1 (.cells #[.string s, .bool false] 128)
    rw [hw2] at hR hb2
    rw [hb.out] at hR ⊢
    have HB := Lib.hid (break_any b s false w2 hR)
    have HB2 := Lib.hid hb2
    clear hw2 hR hb2
    go_wp2_with fail
    refine HB.out.mono ?_
    rintro e w3 ⟨rfl, hR3⟩
    go_wp2_with fail
    refine (break_nil w3).mono ?_
    rintro e w4 ⟨rfl, rfl⟩
    have HG := Lib.hid (get_broken r hr4 b s hs w3 hR3.1)
    have HK := Lib.hid hR3.2
    clear hR3 HB
    go_wp2_with fail
    refine HG.out.mono ?_
    rintro e w5 ⟨rfl, hR5⟩
    have HR5 := Lib.hid hR5
    clear hR5 HG
    go_wp2_with fail
    refine (left_any b s true w5 HR5.out.1 0 rfl).mono ?_
    rintro e w6 ⟨rfl, rfl⟩
    go_wp2_with fail
    refine (end_any b s true w5 HR5.out.1 2 rfl).mono ?_
    rintro e w6 ⟨rfl, rfl⟩
    go_wp2_with fail
    refine (end_nil w5).mono ?_
    rintro e w6 ⟨rfl, rfl⟩
    go_wp2
    go_ret
    refine ⟨rfl, hb1.trans ((HB2.out.trans ((HK.out.trans HR5.out.2).below HB2.out.size ?_)).mono hb1.size)⟩
    simpa using hbl.out
theorem breaks_row (w : World) (s : ByteArray) (k : Int) (hs : s.size ≤ 140737488351232) (hk : (Lit.int .u8 k).wf = true) : Calls Try.prog 5 #[.string s, .int .u8 k] w fun e w' => e = .returned (.bool true) ∧ Below w.heap.size w w' := by
  have hw := u8_wf hk
  obtain ⟨m, rfl⟩ : ∃ m : Nat, k = (m : Int) := ⟨k.toNat, by omega⟩
  exact breaks_walk s (by omega) m (by omega) w
end Go.Proofs.Ytfpocddpnoighaa.Wr

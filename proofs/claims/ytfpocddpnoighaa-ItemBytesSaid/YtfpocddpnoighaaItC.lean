/- item: the document's example; ItemOrders. -/
import Derived.Test.YtfpocddpnoighaaItB
import Derived.Laws.StructEq
namespace Go.Proofs.Ytfpocddpnoighaa.It
open Go.RowKit Go.Proofs.Ytfpocddpnoighaa.L Go.Proofs.Ytfpocddpnoighaa.O Go.Proofs.Ytfpocddpnoighaa.A Go.Proofs.Ytfpocddpnoighaa.R Go.Proofs.Ytfpocddpnoighaa.S Go.Proofs.Ytfpocddpnoighaa.T Go.Proofs.Ytfpocddpnoighaa.E Go.Proofs.Ytfpocddpnoighaa.Wr
set_option linter.unusedVariables false
set_option linter.unusedSimpArgs false

def tidB (a b c a' b' c' : Int) : Bool := a == a' && (b == b' && c == c')
theorem tid_eq' (d : Nat) (a b c a' b' c' : Int) (w : World) : (Op.equalIn (d + 4) 51 (.agg #[.int .i64 a, .int .i64 b, .int .i64 c]) (.agg #[.int .i64 a', .int .i64 b', .int .i64 c'])).run Try.prog w = .ok (tidB a b c a' b' c') w := by
  have hp : Try.prog.stoodInHeld 51 = false := by kernel_rfl
  have hf : Try.prog.underlying 51 = some (.struct (Try.prog.fieldsOf 51)) := by kernel_rfl
  rw [run_equalIn_agg w _ _ _ _ hf hp]
  clear hf hp
  go_simp
  by_cases h1 : a = a' <;> by_cases h2 : b = b' <;> by_cases h3 : c = c' <;> simp [h1, h2, h3, tidB]
theorem tid_eq (a b c a' b' c' : Int) (w : World) : (Op.equalIn 10000 51 (.agg #[.int .i64 a, .int .i64 b, .int .i64 c]) (.agg #[.int .i64 a', .int .i64 b', .int .i64 c'])).run Try.prog w = .ok (tidB a b c a' b' c') w := tid_eq' 9996 a b c a' b' c' w
theorem tid_guard : Try.prog.eqGuardType Try.prog.depth 51 = false := by kernel_rfl

def s24 : ByteArray := saysB ([] ++ numsB [1, 2, 3]) false
theorem s24_size : s24.size = 24 := by kernel_rfl
theorem s24_reads : nv (s24, false) = 1 ∧ nv (nxt (s24, false)) = 2 ∧ nv (nxt (nxt (s24, false))) = 3 ∧ endR (nxt (nxt (nxt (s24, false)))).1 (nxt (nxt (nxt (s24, false)))).2 = 0 := ⟨by kernel_rfl, by kernel_rfl, by kernel_rfl, by kernel_rfl⟩
theorem s24_len : ([] ++ numsB [1, 2, 3]).length ≤ 9223372036854775807 := by rw [List.nil_append, len_nums]; simp
set_option maxHeartbeats 4000000 in
set_option maxRecDepth 100000 in
theorem awake_any (w : World) : Calls Try.prog 31 #[] w fun e w' => e = .returned (.bool true) ∧ Below w.heap.size w w' := by
  have H0 := Lib.hid (wrs_new w 65 (.inr rfl))
  obtain ⟨b, hb⟩ : ∃ b, Hid (w.heap.size = b) := ⟨_, Lib.hid rfl⟩
  obtain ⟨w1, hw1⟩ : ∃ w1, Hid (w.alloc (.cells #[.pointer none, .slice none 0 0, .bool false] 65) = w1) := ⟨_, Lib.hid rfl⟩
  rw [hb.out, hw1.out] at H0
  have HC := Lib.hid (acc H0.out (fun r1 h1 => tid_put b r1 [] false 1 2 3 w1 h1 (by simp)))
  have heq : ∀ w, (Op.equalIn 10000 51 (.agg #[.int .i64 1, .int .i64 2, .int .i64 3]) (.agg #[.int .i64 1, .int .i64 2, .int .i64 3])).run Try.prog w = .ok true w := fun w => by rw [tid_eq]; rfl
  have hm := tid_guard
  go_enter Try.func31, Try.ntmps31
  go_wp2_with fail
  rw [hw1.out, hb.out]
  refine HC.out.mono ?_
  rintro e w2 ⟨rfl, h2⟩
  obtain ⟨r2, h21, h22⟩ := h2.out
  have hk2 := Lib.hid (h2.keep.below (Nat.le_refl _) (by simp))
  have HR2 := Lib.hid (show ∀ k, r2 = some k → w.heap.size ≤ k from fun k hk => by simpa using h22 k hk)
  have HS := Lib.hid (string_any b r2 _ false w2 h21.f s24_len)
  rw [show saysB ([] ++ numsB [1, 2, 3]) false = s24 from rfl] at HS
  clear h2 h21 h22 HC
  go_wp2_with fail
  refine HS.out.mono ?_
  rintro e w3 ⟨rfl, h3, hk3⟩
  have hk3' := Lib.hid (hk2.out.trans (hk3.below hk2.out.size (fun x hx => HR2.out x (by simpa using hx))))
  clear hk3 HS
  go_wp2_with fail
  refine (newreader s24 w3).mono ?_
  rintro e w4 ⟨rfl, hw4⟩
  obtain ⟨bi, hbi⟩ : ∃ bi, Hid (w3.heap.size + 1 = bi) := ⟨_, Lib.hid rfl⟩
  obtain ⟨br, hbr⟩ : ∃ br, Hid (w3.heap.size = br) := ⟨_, Lib.hid rfl⟩
  have hb34 : Below w3.heap.size w3 w4 := by rw [← hw4]; exact below2 (below_alloc _ _) (below_alloc _ _)
  have hR4 : Hid (Rdr w4 br s24 false) := Lib.hid (by rw [← hw4, ← hbr.out]; exact (rdr_new w3 s24).below (below_alloc _ _))
  have hI4 : Hid (Ird w4 bi br) := Lib.hid (by
    have := heap_alloc_new (w3.alloc (.cells #[.string s24, .bool false] 128)) (.cells #[.pointer (some ⟨w3.heap.size, 0, none⟩)] 78)
    unfold Ird
    rw [← hw4, ← hbr.out, ← hbi.out]
    rw [World.size_alloc] at this
    exact this)
  have HF4 := Lib.hid (h3.below hb34)
  have hlow4 := Lib.hid (below2 hk3'.out hb34)
  have hle : Hid (w.heap.size ≤ br) := Lib.hid (by rw [← hbr.out]; exact hk3'.out.size)
  have hne : Hid (bi ≠ br) := Lib.hid (by rw [← hbi.out, ← hbr.out]; omega)
  have hrne : Hid (∀ k, r2 = some k → k ≠ br ∧ k ≠ bi) := Lib.hid (by
    intro k hk
    have hlt : k < w3.heap.size := by
      obtain ⟨T, p, v, _, ho, hv⟩ := h3.out
      exact (ho.lt k (hv.trans hk)).2
    have := hbr.out
    have := hbi.out
    omega)
  rw [hbi.out]
  clear hw4 hb34 h3
  have HS4 := Lib.hid (string_any b r2 _ false w4 HF4.out s24_len)
  rw [show saysB ([] ++ numsB [1, 2, 3]) false = s24 from rfl] at HS4
  go_wp2_with fail
  refine HS4.out.mono ?_
  rintro e w5 ⟨rfl, h5, hk5⟩
  have hR5 := Lib.hid (hR4.out.keep hk5 (fun hm => (hrne.out br (by simpa using hm)).1 rfl))
  have hI5 : Hid (Ird w5 bi br) := Lib.hid (keep_block hk5 hI4.out (fun hm => (hrne.out bi (by simpa using hm)).2 rfl))
  have hlow5 := Lib.hid (hlow4.out.trans (hk5.below hlow4.out.size (fun x hx => HR2.out x (by simpa using hx))))
  have hsz := s24_size
  obtain ⟨e1, e2, e3, e4⟩ := s24_reads
  have HT := Lib.hid (tid_read bi br (s24, false) w5 hI5.out hR5.out hne.out (by show s24.size ≤ _; rw [hsz]; omega))
  rw [e1, e2, e3] at HT
  have HE := Lib.hid e4
  clear h5 hk5 HS4 e1 e2 e3 e4
  go_wp2_with fail
  refine HT.out.mono ?_
  rintro e w6 ⟨rfl, hR6, hk6⟩
  have HR6 := Lib.hid hR6
  have hI6 : Hid (Ird w6 bi br) := Lib.hid (keep_block hk6 hI5.out (by simpa using hne.out))
  have f6 : w6.cell? ⟨bi, 0, none⟩ = some (.pointer (some ⟨br, 0, none⟩)) := by rw [cell_of_row _ _ _ _ _ _ hI6.out]; rfl
  have hlow6 := Lib.hid (hlow5.out.trans (hk6.below hlow5.out.size (by simpa using hle.out)))
  clear hR6 hk6 HT
  go_wp2_with fail
  refine (end_any br _ _ w6 HR6.out 0 HE.out).mono ?_
  rintro e w7 ⟨rfl, rfl⟩
  go_wp2_with fail
  refine (order_any 1 0 0 2 0 0 w6 (-1) (by kernel_rfl)).mono ?_
  rintro e w7 ⟨rfl, hb7⟩
  go_wp2
  go_ret
  exact ⟨rfl, below2 hlow6.out hb7⟩
end Go.Proofs.Ytfpocddpnoighaa.It

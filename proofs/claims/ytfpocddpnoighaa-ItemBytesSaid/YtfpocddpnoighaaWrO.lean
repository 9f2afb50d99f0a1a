/- wire, in plain Lean: what is read is what the document says; what was read is put so. -/
import Derived.Test.YtfpocddpnoighaaWrN
import Derived.Test.YtfpocddpnoighaaWrK
namespace Go.Proofs.Ytfpocddpnoighaa.Wr
open Go.RowKit Go.Proofs.Ytfpocddpnoighaa.L Go.Proofs.Ytfpocddpnoighaa.A Go.Proofs.Ytfpocddpnoighaa.S Go.Proofs.Ytfpocddpnoighaa.T
set_option linter.unusedVariables false
set_option linter.unusedSimpArgs false

structure RdO where
  n : Int
  t : ByteArray
  s : ByteArray
  q : Bool
/-- what get does. -/
def readR (k : Nat) (s : ByteArray) (q : Bool) : RdO := match k with
  | 0 => ⟨(numT 1 s q : Nat), ⟨#[]⟩, takeS 1 s q, takeQ 1 s q⟩
  | 1 => ⟨if numT 1 s q == 1 then 1 else 0, ⟨#[]⟩, takeS 1 s q, takeQ 1 s q || decide (1 < numT 1 s q)⟩
  | 2 => ⟨(numT 2 s q : Nat), ⟨#[]⟩, takeS 2 s q, takeQ 2 s q⟩
  | 3 => ⟨wrap64 (numT 8 s q : Nat), ⟨#[]⟩, takeS 8 s q, takeQ 8 s q⟩
  | _ => ⟨0, takeT (numT 2 s q) (takeS 2 s q) (takeQ 2 s q), takeS (numT 2 s q) (takeS 2 s q) (takeQ 2 s q), takeQ (numT 2 s q) (takeS 2 s q) (takeQ 2 s q)⟩
theorem get_read (k : Nat) (hk : k ≤ 4) (b : Nat) (s : ByteArray) (q : Bool) (hs : s.size ≤ 9223372036854775807) (w : World) (h : Rdr w b s q) (o : RdO) (ho : readR k s q = o) :
    Calls Try.prog 25 #[.pointer (some ⟨b, 0, none⟩), .int .i64 k] w fun e w' => e = .returned (.agg #[.int .i64 k, .int .i64 o.n, .string o.t]) ∧ Rds w b o.s o.q w' := by
  subst ho
  have hb := h.lt
  have hG : ∀ (s' : ByteArray) (q' : Bool) u v, Rdr u b s' q' → Keep [w.heap.size, w.heap.size + 1] u v → Rdr v b s' q' := fun s' q' u v h hk => h.keep hk (by simp; omega)
  have hS : ∀ k ∈ [b], k < w.heap.size := by simpa using hb
  rcases (by omega : k = 0 ∨ k = 1 ∨ k = 2 ∨ k = 3 ∨ k = 4) with rfl | rfl | rfl | rfl | rfl
  · exact get0 _ [b] _ (numT_lt 1 s q (by omega)) (fun u => Rdr u b _ _) w (fun W hW => byte_read b s q W (h.below hW) hs) hS (hG _ _)
  · cases h1 : numT 1 s q == 1
    · refine (get1f _ [b] (fun u => Rdr u b _ _) w (fun W hW => ?_) hS (hG _ _)).mono fun e w' ⟨he, hr⟩ => ⟨?_, hr⟩
      · have := bool_read b s q W (h.below hW) hs
        rw [h1] at this
        exact this
      · rw [he]; simp [readR, h1]
    · refine (get1t _ [b] (fun u => Rdr u b _ _) w (fun W hW => ?_) hS (hG _ _)).mono fun e w' ⟨he, hr⟩ => ⟨?_, hr⟩
      · have := bool_read b s q W (h.below hW) hs
        rw [h1] at this
        exact this
      · rw [he]; simp [readR, h1]
  · exact get2 _ [b] _ (fun u => Rdr u b _ _) w (fun W hW => count_read b s q W (h.below hW) hs) hS (hG _ _)
  · exact get3 _ [b] _ (fun u => Rdr u b _ _) w (fun W hW => num_read b s q W (h.below hW) hs) hS (hG _ _)
  · exact get4 _ [b] _ (fun u => Rdr u b _ _) w (fun W hW => text_read b s q W (h.below hW) hs _ _ _ rfl rfl rfl) hS (hG _ _)

theorem takeT_ok {n : Nat} {s : ByteArray} (h : n ≤ s.size) : takeT n s false = s.extract 0 n := by
  have : decide (s.size < n) = false := by simpa using h
  simp [takeT, this]
theorem takeS_ok {n : Nat} {s : ByteArray} (h : n ≤ s.size) : takeS n s false = s.extract n s.size := by
  have : decide (s.size < n) = false := by simpa using h
  simp [takeS, this]
theorem takeQ_ok {n : Nat} {s : ByteArray} (h : n ≤ s.size) : takeQ n s false = false := by simpa [takeQ] using h
theorem takeQ_no {n : Nat} {s : ByteArray} (h : s.size < n) : takeQ n s false = true := by simpa [takeQ] using h
theorem numT_ok {n : Nat} {s : ByteArray} (h : n ≤ s.size) : numT n s false = headV n s := by simp [numT, headV, takeT_ok h]
theorem headV_small (n : Nat) (s : ByteArray) (hn : n ≤ 7) : wrap64 (headV n s : Nat) = (headV n s : Nat) := wrap_small (by
  have h1 := headV_lt n s (by omega)
  have h2 : 256 ^ n ≤ 256 ^ 7 := Nat.pow_le_pow_right (by omega) hn
  omega)
theorem takeQ_true (n : Nat) (s : ByteArray) : takeQ n s true = true := rfl
/-- what is read is what Get finds. -/
theorem read_none (k : Nat) (hk : k ≤ 4) (s : ByteArray) (h : refG k s = none) : (readR k s false).q = true := by
  unfold refG at h
  rcases (by omega : k = 0 ∨ k = 1 ∨ k = 2 ∨ k = 3 ∨ k = 4) with rfl | rfl | rfl | rfl | rfl
  · by_cases h1 : s.size < 1
    · exact takeQ_no h1
    · simp [szOf, h1] at h
  · by_cases h1 : s.size < 1
    · simp [readR, takeQ_no h1]
    · by_cases h2 : 1 < headV 1 s
      · simp [readR, numT_ok (show 1 ≤ s.size by omega), h2]
      · simp [szOf, h1, h2] at h
  · by_cases h1 : s.size < 2
    · exact takeQ_no h1
    · simp [szOf, h1] at h
  · by_cases h1 : s.size < 8
    · exact takeQ_no h1
    · simp [szOf, h1] at h
  · by_cases h1 : s.size < 2
    · simp [readR, takeQ_no h1, takeQ_true]
    · by_cases h2 : s.size - 2 < headV 2 s
      · simp only [readR, takeQ_ok (show 2 ≤ s.size by omega), takeS_ok (show 2 ≤ s.size by omega), numT_ok (show 2 ≤ s.size by omega)]
        exact takeQ_no (by rw [ByteArray.size_extract]; omega)
      · simp [szOf, h1, h2] at h
theorem ext_ext (s : ByteArray) (a b : Nat) (h : a + b ≤ s.size) : (s.extract a s.size).extract 0 b = s.extract a (a + b) ∧ (s.extract a s.size).extract b (s.extract a s.size).size = s.extract (a + b) s.size := by
  constructor
  · apply ByteArray.ext
    simp
    rw [show min (a + b) s.size = a + b by omega]
  · apply ByteArray.ext
    simp
    rw [show min (a + (s.size - a)) s.size = s.size by omega]
theorem read_some (k : Nat) (hk : k ≤ 4) (s : ByteArray) (n : Int) (t : ByteArray) (m : Nat) (h : refG k s = some (n, t, m)) : readR k s false = ⟨n, t, s.extract m s.size, false⟩ ∧ 0 < m ∧ m ≤ s.size := by
  unfold refG at h
  rcases (by omega : k = 0 ∨ k = 1 ∨ k = 2 ∨ k = 3 ∨ k = 4) with rfl | rfl | rfl | rfl | rfl
  · by_cases h1 : s.size < 1
    · simp [szOf, h1] at h
    · simp [szOf, h1] at h
      obtain ⟨rfl, rfl, rfl⟩ := h
      have h2 : 1 ≤ s.size := by omega
      simp only [readR, numT_ok h2, takeS_ok h2, takeQ_ok h2, headV_small 1 s (by omega)]
      exact ⟨trivial, by omega, h2⟩
  · by_cases h1 : s.size < 1
    · simp [szOf, h1] at h
    · by_cases h3 : 1 < headV 1 s
      · simp [szOf, h1, h3] at h
      · simp [szOf, h1, h3] at h
        obtain ⟨rfl, rfl, rfl⟩ := h
        have h2 : 1 ≤ s.size := by omega
        have h4 : headV 1 s = 0 ∨ headV 1 s = 1 := by omega
        have h5 : decide (1 < headV 1 s) = false := by simpa using h3
        simp only [readR, numT_ok h2, takeS_ok h2, takeQ_ok h2, headV_small 1 s (by omega), h5, Bool.or_false]
        refine ⟨?_, by omega, h2⟩
        rcases h4 with h4 | h4 <;> rw [h4] <;> rfl
  · by_cases h1 : s.size < 2
    · simp [szOf, h1] at h
    · simp [szOf, h1] at h
      obtain ⟨rfl, rfl, rfl⟩ := h
      have h2 : 2 ≤ s.size := by omega
      simp only [readR, numT_ok h2, takeS_ok h2, takeQ_ok h2, headV_small 2 s (by omega)]
      exact ⟨trivial, by omega, h2⟩
  · by_cases h1 : s.size < 8
    · simp [szOf, h1] at h
    · simp [szOf, h1] at h
      obtain ⟨rfl, rfl, rfl⟩ := h
      have h2 : 8 ≤ s.size := by omega
      simp only [readR, numT_ok h2, takeS_ok h2, takeQ_ok h2]
      exact ⟨trivial, by omega, h2⟩
  · by_cases h1 : s.size < 2
    · simp [szOf, h1] at h
    · by_cases h3 : s.size - 2 < headV 2 s
      · simp [szOf, h1, h3] at h
      · simp [szOf, h1, h3] at h
        obtain ⟨rfl, rfl, rfl⟩ := h
        have h2 : 2 ≤ s.size := by omega
        have h4 : headV 2 s ≤ (s.extract 2 s.size).size := by rw [ByteArray.size_extract]; omega
        obtain ⟨e1, e2⟩ := ext_ext s 2 (headV 2 s) (by omega)
        simp only [readR, numT_ok h2, takeS_ok h2, takeQ_ok h2, takeT_ok h4, takeS_ok h4, takeQ_ok h4, e1, e2]
        exact ⟨trivial, by omega, by omega⟩

/-! ### what was read is put so -/
theorem bigB_snoc (V x size : Nat) (hx : x < 256) : bigB (V * 256 + x) (size + 1) = bigB V size ++ [UInt8.ofNat x] := by
  unfold bigB
  rw [List.range_succ, List.map_append, List.map_singleton]
  congr 1
  · apply List.map_congr_left
    intro j hj
    have hj' : j < size := by simpa using hj
    congr 1
    rw [show size + 1 - 1 - j = (size - 1 - j) + 1 by omega, Nat.pow_succ, Nat.mul_comm (256 ^ (size - 1 - j)) 256, ← Nat.div_div_eq_div_mul, show (V * 256 + x) / 256 = V by omega]
  · simp
    congr 1
    omega
theorem bigB_val : ∀ (n : Nat) (l : List UInt8), l.length = n → bigB (valB l) n = l := by
  intro n
  induction n with
  | zero => intro l h; rw [List.eq_nil_of_length_eq_zero h]; rfl
  | succ n ih =>
    intro l h
    obtain ⟨a, x, rfl⟩ : ∃ a x, l = a ++ [x] := ⟨l.dropLast, l.getLast (by intro e; simp [e] at h), (List.dropLast_concat_getLast _).symm⟩
    rw [valB_snoc, bigB_snoc _ _ _ (UInt8.toNat_lt x), ih a (by simpa using h)]
    simp
theorem ext_list (s : ByteArray) (a b : Nat) : (s.extract a b).data.toList = (s.data.toList.take b).drop a := by
  rw [Lib.extract_data, List.drop_take]
theorem head_big (n : Nat) (s : ByteArray) (h : n ≤ s.size) (hn : n ≤ 8) : bigB (headV n s) n = s.data.toList.take n := by
  have hl : (s.extract 0 n).data.toList.length = n := by
    rw [Array.length_toList]
    show (s.extract 0 n).size = n
    rw [ByteArray.size_extract]; omega
  unfold headV
  rw [numV_le _ (by omega), bigB_val n _ hl, ext_list, List.drop_zero]
theorem u64_wrap64 (m : Nat) (h : m < 18446744073709551616) : u64 (wrap64 (m : Int)) = m := by
  unfold u64 wrap64
  omega
theorem put_read (k : Nat) (hk : k ≤ 4) (s : ByteArray) (n : Int) (t : ByteArray) (m : Nat) (h : refG k s = some (n, t, m)) : putB ⟨k, n, t⟩ = s.data.toList.take m ∧ putOk ⟨k, n, t⟩ = true ∧ t.size ≤ s.size := by
  unfold refG at h
  rcases (by omega : k = 0 ∨ k = 1 ∨ k = 2 ∨ k = 3 ∨ k = 4) with rfl | rfl | rfl | rfl | rfl
  · by_cases h1 : s.size < 1
    · simp [szOf, h1] at h
    · simp [szOf, h1] at h
      obtain ⟨rfl, rfl, rfl⟩ := h
      have h2 : 1 ≤ s.size := by omega
      have h3 := head_big 1 s h2 (by omega)
      have h4 := headV_lt 1 s (by omega)
      rw [headV_small 1 s (by omega)]
      refine ⟨?_, rfl, Nat.zero_le _⟩
      rw [← h3]
      simp [putB, bigB]
      congr 1
  · by_cases h1 : s.size < 1
    · simp [szOf, h1] at h
    · by_cases h3 : 1 < headV 1 s
      · simp [szOf, h1, h3] at h
      · simp [szOf, h1, h3] at h
        obtain ⟨rfl, rfl, rfl⟩ := h
        have h2 : 1 ≤ s.size := by omega
        have h5 := head_big 1 s h2 (by omega)
        have h4 : headV 1 s = 0 ∨ headV 1 s = 1 := by omega
        rw [headV_small 1 s (by omega)]
        refine ⟨?_, rfl, Nat.zero_le _⟩
        rw [← h5]
        rcases h4 with h4 | h4 <;> rw [h4] <;> rfl
  · by_cases h1 : s.size < 2
    · simp [szOf, h1] at h
    · simp [szOf, h1] at h
      obtain ⟨rfl, rfl, rfl⟩ := h
      have h2 : 2 ≤ s.size := by omega
      have h3 := head_big 2 s h2 (by omega)
      have h4 := headV_lt 2 s (by omega)
      rw [headV_small 2 s (by omega)]
      have h5 : okN (headV 2 s : Nat) = true := by simp [okN]; omega
      refine ⟨?_, ?_, Nat.zero_le _⟩
      · simp [putB, h5, h3]
      · simp [putOk, h5]
  · by_cases h1 : s.size < 8
    · simp [szOf, h1] at h
    · simp [szOf, h1] at h
      obtain ⟨rfl, rfl, rfl⟩ := h
      have h2 : 8 ≤ s.size := by omega
      have h3 := head_big 8 s h2 (by omega)
      have h4 := headV_lt 8 s (by omega)
      refine ⟨?_, rfl, Nat.zero_le _⟩
      simp only [putB]
      rw [u64_wrap64 _ (by omega), h3]
      simp
  · by_cases h1 : s.size < 2
    · simp [szOf, h1] at h
    · by_cases h3 : s.size - 2 < headV 2 s
      · simp [szOf, h1, h3] at h
      · simp [szOf, h1, h3] at h
        obtain ⟨rfl, rfl, rfl⟩ := h
        have h2 : 2 ≤ s.size := by omega
        have h5 := head_big 2 s h2 (by omega)
        have h4 := headV_lt 2 s (by omega)
        have h6 : (s.extract 2 (2 + headV 2 s)).size = headV 2 s := by rw [ByteArray.size_extract]; omega
        have h7 : okN ((s.extract 2 (2 + headV 2 s)).size : Nat) = true := by rw [h6]; simp [okN]; omega
        refine ⟨?_, ?_, by rw [h6]; omega⟩
        · simp only [putB, textB, h7, if_true, h6, h5]
          rw [ext_list]
          have hta := List.take_append_drop 2 (List.take (2 + headV 2 s) s.data.toList)
          rw [List.take_take, Nat.min_eq_left (by omega)] at hta
          have h8 : okN (headV 2 s : Nat) = true := by rw [← h6]; exact h7
          simpa [h8] using hta
        · simp only [putOk, h7]; rfl
end Go.Proofs.Ytfpocddpnoighaa.Wr

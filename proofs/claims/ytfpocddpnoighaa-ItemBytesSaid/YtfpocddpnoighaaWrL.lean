/- wire: the document's Big and value. -/
import Derived.Test.YtfpocddpnoighaaWrF
import Derived.Test.YtfpocddpnoighaaWrI
import Derived.Laws.IdiomStrings
import Derived.Laws.Rows
namespace Go.Proofs.Ytfpocddpnoighaa.Wr
open Go.RowKit Go.Proofs.Ytfpocddpnoighaa.L Go.Proofs.Ytfpocddpnoighaa.A Go.Proofs.Ytfpocddpnoighaa.S Go.Proofs.Ytfpocddpnoighaa.T
set_option linter.unusedVariables false
set_option linter.unusedSimpArgs false

/-- what Big's row holds when its bytes from t on are laid. -/
def bigP (n size t : Nat) : List UInt8 := List.replicate t 0 ++ (bigB n size).drop t
theorem bigP_all (n size : Nat) : bigP n size 0 = bigB n size := by simp [bigP]
theorem bigP_none (n size : Nat) : bigP n size size = List.replicate size 0 := by
  unfold bigP
  rw [List.drop_eq_nil_of_le (by rw [len_big]; exact Nat.le_refl _), List.append_nil]
theorem len_bigP (n size t : Nat) (h : t ≤ size) : (bigP n size t).length = size := by
  unfold bigP; rw [List.length_append, List.length_replicate, List.length_drop, len_big]; omega
theorem bigP_set (n size t : Nat) (h : t < size) : (bigP n size (t + 1)).set t (UInt8.ofNat (n / 256 ^ (size - (t + 1)) % 256)) = bigP n size t := by
  have h1 : (bigB n size)[t]'(by rw [len_big]; exact h) = UInt8.ofNat (n / 256 ^ (size - (t + 1)) % 256) := by
    simp only [bigB, List.getElem_map, List.getElem_range]
    congr 4
    omega
  unfold bigP
  rw [List.drop_eq_getElem_cons (i := t) (by rw [len_big]; exact h), h1, List.replicate_succ', List.append_assoc, List.set_append_right _ _ (by simp)]
  simp
theorem made_bytes (n : Nat) : madeCells (Value.int .u8 0).cells (n * 1) = (Lib.byteCells (List.replicate n 0)).toArray := by
  apply Array.ext'
  apply List.ext_getElem?
  intro i
  by_cases hi : i < n * 1
  · simp only [madeCells, Array.toList_map, List.getElem?_map, Array.toList_range, List.getElem?_range hi, Option.map_some, Lib.byteCells]
    rw [List.getElem?_replicate, if_pos (by omega)]
    simp [Value.cells]
    rw [Nat.mod_one]
    rfl
  · rw [List.getElem?_eq_none (by simp [madeCells]; omega), List.getElem?_eq_none (by simp [Lib.byteCells]; omega)]
theorem byte_info : (Try.prog.info? 5).map (fun i => (i.zero, i.size, i.bytes)) = some (some (.int .u8 0), 1, 1) := by kernel_rfl
theorem run_made (n : Nat) (h : n ≤ 8) (w : World) : (Instr.makeSlice 26 (.int .i64 n) (.int .i64 n)).run Try.prog w = .ok (.slice (some ⟨w.heap.size, 0, none⟩) n n) (w.alloc (.cells (Lib.byteCells (List.replicate n 0)).toArray 5)) := by
  obtain ⟨i0, hi, hz0, hz1, hz2⟩ := info_parts byte_info
  have := run_make (P := Try.prog) w 26 5 i0 _ (by kernel_rfl) hi hz0 .i64 .i64 (n : Int) (n : Int) (by omega) (by omega) (by rw [hz2]; omega) (by omega)
  rw [hz1, Int.toNat_natCast, made_bytes] at this
  exact this
set_option maxHeartbeats 4000000 in
set_option maxRecDepth 100000 in
theorem big_any (n size : Nat) (hn : n < 18446744073709551616) (hs : size ≤ 8) (w : World) :
    Calls Try.prog 87 #[.int .u64 n, .int .i64 size] w fun e w' => e = .returned (.string ⟨(bigB n size).toArray⟩) ∧ Below w.heap.size w w' := by
  have hmk := run_made size hs
  obtain ⟨g, hg⟩ : ∃ g, Hid (w.heap.size = g) := ⟨_, Lib.hid rfl⟩
  obtain ⟨W, hW⟩ : ∃ W, Hid (w.alloc (.cells (Lib.byteCells (List.replicate size 0)).toArray 5) = W) := ⟨_, Lib.hid rfl⟩
  have H0 : Hid (W.heap[g]? = some (.cells (Lib.byteCells (bigP n size size)).toArray 5 (0, 0)) ∧ Below g w W) := Lib.hid (by
    rw [bigP_none, ← hW.out, ← hg.out]
    exact ⟨heap_alloc_new _ _, below_alloc _ _⟩)
  go_enter Try.func87, Try.ntmps87
  go_wp2_with fail
  rw [hW.out, hg.out]
  clear hmk
  go_loopw [0, 6] (fun m i wr => ∃ (t : Nat) (j : Int), j + 1 = t ∧ t ≤ size ∧ i = .int .i64 j ∧ m = .int .u64 (n / 256 ^ (size - t) : Nat) ∧ wr.heap[g]? = some (.cells (Lib.byteCells (bigP n size t)).toArray 5 (0, 0)) ∧ Below g w wr) (fun _ i _ => ((intOf i) + 1).toNat)
  case atStart => exact ⟨size, (size : Int) - 1, by omega, by omega, by first | rfl | (congr 1), by simp, H0.out.1, H0.out.2⟩
  case round =>
    obtain ⟨t, j, hj, ht, rfl, rfl, hb, hlow⟩ := hrel
    cases t with
    | zero =>
      obtain rfl : j = -1 := by omega
      rw [bigP_all] at hb
      have hconv : Hid (∀ cap, (convert 26 9 (.slice (some ⟨g, 0, none⟩) (bigB n size).length cap)).run Try.prog wr = .ok (.string ⟨(bigB n size).toArray⟩) wr) := Lib.hid fun cap =>
        run_convert_bytes_back wr 26 9 5 ⟨g, 0, none⟩ cap (bigB n size) (by kernel_rfl) (by kernel_rfl) (by kernel_rfl) (fun k hk => by
          have hadd : (⟨g, 0, none⟩ : Addr).add k = ⟨g, k, none⟩ := by unfold Addr.add; split <;> simp_all
          rw [hadd, cell_of_row _ _ _ _ _ _ hb]
          simp [Lib.byteCells, hk])
      have hc := hconv.out size
      rw [len_big] at hc
      clear hb
      go_wp2
      go_ret
      exact ⟨rfl, by rw [hg.out]; exact hlow⟩
    | succ t =>
      obtain rfl : j = (t : Int) := by omega
      obtain ⟨m, hm⟩ : ∃ m : Nat, Hid (n / 256 ^ (size - (t + 1)) = m) := ⟨_, Lib.hid rfl⟩
      have hml : m < 18446744073709551616 := by rw [← hm.out]; exact Nat.lt_of_le_of_lt (Nat.div_le_self _ _) hn
      have hm2 : Hid (m / 256 = n / 256 ^ (size - t)) := Lib.hid (by
        rw [← hm.out, Nat.div_div_eq_div_mul, ← Nat.pow_succ]
        congr 2
        omega)
      have hset := Lib.hid (bigP_set n size t (by omega))
      rw [hm.out] at hset ⊢
      have c0 : wr.cell? ⟨g, t, none⟩ = some (.int .u8 0) := by
        rw [cell_of_row _ _ _ _ _ _ hb]
        simp only [Lib.byteCells, bigP, List.getElem?_toArray, List.map_append, List.map_replicate]
        rw [List.getElem?_append_left (by simp), List.getElem?_replicate, if_pos (by omega)]
        rfl
      have f0 : wr.frozen? ⟨g, t, none⟩ = false := by simp [World.frozen?, hb]
      have hnew : Hid ((wr.setCell ⟨g, t, none⟩ (.int .u8 ((m : Int) % 256))).heap[g]? = some (.cells (Lib.byteCells (bigP n size t)).toArray 5 (0, 0)) ∧ Below g w (wr.setCell ⟨g, t, none⟩ (.int .u8 ((m : Int) % 256)))) := Lib.hid ⟨by
          rw [heap_setCell_at wr g t _ _ _ _ hb, ← hset.out]
          simp only [Lib.byteCells, List.map_set, List.setIfInBounds_toArray, UInt8.toNat_ofNat']
          rw [show (m : Int) % 256 = ((m % 256 % 2 ^ 8 : Nat) : Int) by omega], hlow.setCell (p := ⟨g, t, none⟩) (Nat.le_refl _) _⟩
      have hts : t < size := by omega
      clear hb hlow
      go_wp2
      go_roundw
      case rel => exact ⟨t, (t : Int) - 1, by omega, by omega, rfl, by rw [← hm2.out]; simp, hnew.out.1, hnew.out.2⟩
      case measure => simp [intOf]
set_option maxHeartbeats 1000000 in
theorem value_any (s : ByteArray) (w : World) (hs : s.size ≤ 9223372036854775807) (m : Nat) (hm : numV s.data.toList = m) :
    Calls Try.prog 88 #[.string s] w fun e w' => e = .returned (.int .u64 (m : Nat)) ∧ w = w' := by
  have HM := Lib.hid hm
  clear hm
  go_enter Try.func88, Try.ntmps88
  go_wp2
  go_loopw [3, 4] (fun n i wr => ∃ k j : Nat, k ≤ s.size ∧ i = .int .i64 k ∧ n = .int .u64 j ∧ j < 18446744073709551616 ∧ Hid (numV (s.data.toList.take k) = j) ∧ wr = w) (fun _ i _ => s.size - (intOf i).toNat)
  case atStart => exact ⟨0, 0, by omega, rfl, rfl, by omega, Lib.hid rfl, rfl⟩
  case round =>
    obtain ⟨k, j, hk, rfl, rfl, hj, hn, rfl⟩ := hrel
    by_cases hlt : k < s.size
    · obtain ⟨y, hy⟩ : ∃ y : Nat, Hid ((j * 256 + s[k].toNat) % 18446744073709551616 = y) := ⟨_, Lib.hid rfl⟩
      have hy2 : Hid (y < 18446744073709551616) := Lib.hid (by rw [← hy.out]; omega)
      have hy3 : Hid (numV (s.data.toList.take (k + 1)) = y) := Lib.hid (by
        rw [List.take_succ_eq_append_getElem (by simpa using hlt), numV_snoc, hn.out, ← hy.out]
        rfl)
      clear hn
      go_wp2
      go_roundw
      case rel =>
        refine ⟨k + 1, y, by omega, by go_num, ?_, hy2.out, hy3, trivial⟩
        rw [← hy.out]
        have h1 := UInt8.toNat_lt s[k]
        obtain ⟨x, hx⟩ : ∃ x : Nat, s[k].toNat = x := ⟨_, rfl⟩
        rw [hx] at h1 ⊢
        rw [IntKind.wrap_u64, IntKind.wrap_u64, IntKind.wrap_u64]
        congr 1
        omega
      case measure => simp [intOf]; omega
    · have hres : Hid (j = m) := Lib.hid (by
        rw [← hn.out, ← HM.out, List.take_of_length_le]
        simp
        show s.size ≤ k
        omega)
      go_wp2
      go_ret
      exact ⟨reti (by rw [hres.out]), rfl⟩
end Go.Proofs.Ytfpocddpnoighaa.Wr

/- wire: a reader as it lies in memory; take, number. -/
import Derived.Lib.IndexBytes
import Derived.Lib.Strings
import Derived.WalkSpells
import Derived.Test.YtfpocddpnoighaaMRu5
namespace Go.Proofs.Ytfpocddpnoighaa.Wr
open Go.RowKit Go.Proofs.Ytfpocddpnoighaa.L Go.Proofs.Ytfpocddpnoighaa.A Go.Proofs.Ytfpocddpnoighaa.S Go.Proofs.Ytfpocddpnoighaa.T
set_option linter.unusedVariables false
set_option linter.unusedSimpArgs false

/-- a reader: what is left, whether it is broken. -/
def Rdr (w : World) (b : Nat) (s : ByteArray) (q : Bool) : Prop := w.heap[b]? = some (.cells #[.string s, .bool q] 128 (0, 0))
theorem Rdr.cells {w : World} {b : Nat} {s : ByteArray} {q : Bool} (h : Rdr w b s q) : w.cell? ⟨b, 0, none⟩ = some (.string s) ∧ w.cell? ⟨b, 1, none⟩ = some (.bool q) ∧ w.frozen? ⟨b, 0, none⟩ = false ∧ w.frozen? ⟨b, 1, none⟩ = false := by
  unfold Rdr at h
  exact ⟨by rw [cell_of_row _ _ _ _ _ _ h]; rfl, by rw [cell_of_row _ _ _ _ _ _ h]; rfl, by simp [World.frozen?, h], by simp [World.frozen?, h]⟩
theorem Rdr.keep {S : List Nat} {w w' : World} {b : Nat} {s : ByteArray} {q : Bool} (h : Rdr w b s q) (hk : Keep S w w') (hb : b ∉ S) : Rdr w' b s q := keep_block hk h hb
theorem Rdr.lt {w : World} {b : Nat} {s : ByteArray} {q : Bool} (h : Rdr w b s q) : b < w.heap.size := (Array.getElem?_eq_some_iff.1 h).1
theorem Rdr.below {w w' : World} {b : Nat} {s : ByteArray} {q : Bool} (h : Rdr w b s q) (hb : Below w.heap.size w w') : Rdr w' b s q := h.keep (S := []) (.of_below hb) (by simp)
/-- what a call may have made of a reader. -/
def Rds (w : World) (b : Nat) (s : ByteArray) (q : Bool) (w' : World) : Prop := Rdr w' b s q ∧ Keep [b] w w'
theorem Rds.refl {w : World} {b : Nat} {s : ByteArray} {q : Bool} (h : Rdr w b s q) : Rds w b s q w := ⟨h, Keep.refl _ _⟩
theorem Rdr.set0 {w : World} {b : Nat} {s : ByteArray} {q : Bool} (h : Rdr w b s q) (t : ByteArray) : Rds w b t q (w.setCell ⟨b, 0, none⟩ (.string t)) := ⟨heap_setCell_at w b 0 _ _ _ _ h, (Keep.refl _ _).setCell (p := ⟨b, 0, none⟩) (.inl (by simp)) _⟩
theorem Rdr.set1 {w : World} {b : Nat} {s : ByteArray} {q : Bool} (h : Rdr w b s q) (t : Bool) : Rds w b s t (w.setCell ⟨b, 1, none⟩ (.bool t)) := ⟨heap_setCell_at w b 1 _ _ _ _ h, (Keep.refl _ _).setCell (p := ⟨b, 1, none⟩) (.inl (by simp)) _⟩
theorem rdr_new (w : World) (s : ByteArray) : Rdr (w.alloc (.cells #[.string s, .bool false] 128)) w.heap.size s false := heap_alloc_new _ _

set_option maxHeartbeats 1000000 in
theorem break_any (b : Nat) (s : ByteArray) (q : Bool) (w : World) (h : Rdr w b s q) :
    Calls Try.prog 28 #[.pointer (some ⟨b, 0, none⟩)] w fun e w' => e = .returned (.tuple #[]) ∧ Rds w b s true w' := by
  obtain ⟨c0, c1, f0, f1⟩ := h.cells
  have H := Lib.hid (h.set1 true)
  clear h
  go_enter Try.func28, Try.ntmps28
  go_wp2
  go_end0
  exact ⟨rfl, H.out⟩
set_option maxHeartbeats 1000000 in
theorem break_nil (w : World) : Calls Try.prog 28 #[.pointer none] w fun e w' => e = .returned (.tuple #[]) ∧ w = w' := by
  go_enter Try.func28, Try.ntmps28
  go_wp2
  go_end0
  exact ⟨rfl, rfl⟩
/-- what take gives; what is left; is it broken? -/
def takeT (n : Nat) (s : ByteArray) (q : Bool) : ByteArray := if q || decide (s.size < n) then ⟨#[]⟩ else s.extract 0 n
def takeS (n : Nat) (s : ByteArray) (q : Bool) : ByteArray := if q || decide (s.size < n) then s else s.extract n s.size
def takeQ (n : Nat) (s : ByteArray) (q : Bool) : Bool := q || decide (s.size < n)
set_option maxHeartbeats 1000000 in
theorem take_any (b : Nat) (n : Nat) (s : ByteArray) (q : Bool) (w : World) (h : Rdr w b s q) (hs : s.size ≤ 9223372036854775807) (t s' : ByteArray) (q' : Bool) (ht : takeT n s q = t) (hs' : takeS n s q = s') (hq' : takeQ n s q = q') :
    Calls Try.prog 127 #[.pointer (some ⟨b, 0, none⟩), .int .i64 n] w fun e w' => e = .returned (.string t) ∧ Rds w b s' q' w' := by
  obtain ⟨c0, c1, f0, f1⟩ := h.cells
  have HT := Lib.hid ht
  have HS := Lib.hid hs'
  have HQ := Lib.hid hq'
  have HB := Lib.hid (break_any b s q w h)
  have HN := Lib.hid (h.set0 (s.extract n s.size))
  clear h ht hs' hq'
  cases q
  · by_cases hn : s.size < n
    · have e1 : Hid (t = ⟨#[]⟩) := Lib.hid (by rw [← HT.out]; simp [takeT, hn])
      have e2 : Hid (s' = s) := Lib.hid (by rw [← HS.out]; simp [takeS, hn])
      have e3 : Hid (q' = true) := Lib.hid (by rw [← HQ.out]; simp [takeQ, hn])
      go_enter Try.func127, Try.ntmps127
      go_wp2_with fail
      refine HB.out.mono ?_
      rintro e w1 ⟨rfl, hR⟩
      go_wp2
      go_ret
      exact ⟨retv (congrArg Value.string e1.out.symm), by rw [e2.out, e3.out]; exact hR⟩
    · have hle : n ≤ s.size := by omega
      have e1 : Hid (t = s.extract 0 n) := Lib.hid (by rw [← HT.out]; simp [takeT, hn])
      have e2 : Hid (s' = s.extract n s.size) := Lib.hid (by rw [← HS.out]; simp [takeS, hn])
      have e3 : Hid (q' = false) := Lib.hid (by rw [← HQ.out]; simp [takeQ, hn])
      go_enter Try.func127, Try.ntmps127
      go_wp2
      go_ret
      exact ⟨retv (congrArg Value.string e1.out.symm), by rw [e2.out, e3.out]; exact HN.out⟩
  · have e1 : Hid (t = ⟨#[]⟩) := Lib.hid (by rw [← HT.out]; simp [takeT])
    have e2 : Hid (s' = s) := Lib.hid (by rw [← HS.out]; simp [takeS])
    have e3 : Hid (q' = true) := Lib.hid (by rw [← HQ.out]; simp [takeQ])
    go_enter Try.func127, Try.ntmps127
    go_wp2_with fail
    refine HB.out.mono ?_
    rintro e w1 ⟨rfl, hR⟩
    go_wp2
    go_ret
    exact ⟨retv (congrArg Value.string e1.out.symm), by rw [e2.out, e3.out]; exact hR⟩
set_option maxHeartbeats 1000000 in
theorem take_nil (n : Int) (w : World) : Calls Try.prog 127 #[.pointer none, .int .i64 n] w fun e w' => e = .returned (.string ⟨#[]⟩) ∧ w = w' := by
  go_enter Try.func127, Try.ntmps127
  go_wp2_with fail
  refine (break_nil w).mono ?_
  rintro e w1 ⟨rfl, rfl⟩
  go_wp2
  go_ret
  exact ⟨rfl, rfl⟩

theorem bits_or64 (a b : Nat) (ha : a < 2 ^ 64) (hb : b < 2 ^ 64) : bits .or .u64 (a : Int) (b : Int) = ((a ||| b : Nat) : Int) := by
  have hx := Nat.or_lt_two_pow ha hb
  have e : (BitVec.ofNat 64 a ||| BitVec.ofNat 64 b).toNat = a ||| b := by
    rw [BitVec.toNat_or, BitVec.toNat_ofNat, BitVec.toNat_ofNat, Nat.mod_eq_of_lt ha, Nat.mod_eq_of_lt hb]
  show IntKind.u64.wrap (((BitVec.ofNat 64 a ||| BitVec.ofNat 64 b).toNat : Nat) : Int) = _
  rw [e, IntKind.wrap_u64]
  omega
theorem or_step (j x : Nat) (hx : x < 256) : bits .or .u64 (IntKind.u64.wrap ((j : Int) * 256)) (IntKind.u64.wrap (x : Int)) = (((j * 256 + x) % 18446744073709551616 : Nat) : Int) := by
  have e1 : IntKind.u64.wrap ((j : Int) * 256) = ((j * 256 % 18446744073709551616 : Nat) : Int) := by rw [IntKind.wrap_u64]; omega
  have e2 : IntKind.u64.wrap (x : Int) = ((x : Nat) : Int) := by rw [IntKind.wrap_u64]; omega
  rw [e1, e2, bits_or64 _ _ (by omega) (by omega)]
  have e3 : j * 256 % 18446744073709551616 = 2 ^ 8 * (j % 72057594037927936) := by omega
  rw [e3, ← Nat.two_pow_add_eq_or_of_lt (show x < 2 ^ 8 by omega)]
  congr 1
  omega
/-- bytes as a number, the highest first. -/
def numV (l : List UInt8) : Nat := l.foldl (fun n x => (n * 256 + x.toNat) % 18446744073709551616) 0
theorem numV_snoc (l : List UInt8) (x : UInt8) : numV (l ++ [x]) = (numV l * 256 + x.toNat) % 18446744073709551616 := by simp [numV]
set_option maxHeartbeats 1000000 in
theorem number_any (s : ByteArray) (w : World) (hs : s.size ≤ 9223372036854775807) (m : Nat) (hm : numV s.data.toList = m) :
    Calls Try.prog 126 #[.string s] w fun e w' => e = .returned (.int .u64 (m : Nat)) ∧ w = w' := by
  have HM := Lib.hid hm
  clear hm
  go_enter Try.func126, Try.ntmps126
  go_wp2
  go_loopw [3, 4] (fun n i wr => ∃ k j : Nat, k ≤ s.size ∧ i = .int .i64 k ∧ n = .int .u64 j ∧ j < 18446744073709551616 ∧ Hid (numV (s.data.toList.take k) = j) ∧ wr = w) (fun _ i _ => s.size - (intOf i).toNat)
  case atStart => exact ⟨0, 0, by omega, rfl, rfl, by omega, Lib.hid rfl, rfl⟩
  case round =>
    obtain ⟨k, j, hk, rfl, rfl, hj, hn, rfl⟩ := hrel
    by_cases hlt : k < s.size
    · have hx := or_step j s[k].toNat (UInt8.toNat_lt _)
      obtain ⟨y, hy⟩ : ∃ y : Nat, Hid ((j * 256 + s[k].toNat) % 18446744073709551616 = y) := ⟨_, Lib.hid rfl⟩
      rw [hy.out] at hx
      have hy2 : Hid (y < 18446744073709551616) := Lib.hid (by rw [← hy.out]; omega)
      have hy3 : Hid (numV (s.data.toList.take (k + 1)) = y) := Lib.hid (by
        rw [List.take_succ_eq_append_getElem (by simpa using hlt), numV_snoc, hn.out, ← hy.out]
        rfl)
      clear hn
      go_wp2
      go_roundw
      case rel => exact ⟨k + 1, y, by omega, by go_num, by first | rfl | rw [hx], hy2.out, hy3, trivial⟩
      case measure => simp [intOf]; omega
    · have hres : Hid (j = m) := Lib.hid (by
        rw [← hn.out, ← HM.out, List.take_of_length_le]
        simp
        show s.size ≤ k
        omega)
      go_wp2
      go_ret
      exact ⟨reti (by rw [hres.out]), rfl⟩
end Go.Proofs.Ytfpocddpnoighaa.Wr

/- wire: the reader's methods. -/
namespace Go.Proofs.Ytfpocddpnoighaa.Wr
open Go.RowKit Go.Proofs.Ytfpocddpnoighaa.L Go.Proofs.Ytfpocddpnoighaa.A Go.Proofs.Ytfpocddpnoighaa.S Go.Proofs.Ytfpocddpnoighaa.T
set_option linter.unusedVariables false
set_option linter.unusedSimpArgs false

/-- without the wrap. -/
def valB (l : List UInt8) : Nat := l.foldl (fun n x => n * 256 + x.toNat) 0
theorem valB_snoc (l : List UInt8) (x : UInt8) : valB (l ++ [x]) = valB l * 256 + x.toNat := by simp [valB]
theorem valB_lt : ∀ (n : Nat) (l : List UInt8), l.length = n → valB l < 256 ^ n := by
  intro n
  induction n with
  | zero => intro l h; rw [List.eq_nil_of_length_eq_zero h]; simp [valB]
  | succ n ih =>
    intro l h
    obtain ⟨a, x, rfl⟩ : ∃ a x, l = a ++ [x] := ⟨l.dropLast, l.getLast (by intro e; simp [e] at h), (List.dropLast_concat_getLast _).symm⟩
    have h1 := ih a (by simpa using h)
    have h2 := UInt8.toNat_lt x
    rw [valB_snoc, Nat.pow_succ]
    omega
theorem numV_mod (l : List UInt8) : numV l = valB l % 18446744073709551616 := by
  have key : ∀ (l : List UInt8) (a b : Nat), a = b % 18446744073709551616 → l.foldl (fun n x => (n * 256 + x.toNat) % 18446744073709551616) a = l.foldl (fun n x => n * 256 + x.toNat) b % 18446744073709551616 := by
    intro l
    induction l with
    | nil => intro a b h; exact h
    | cons x l ih => intro a b h; exact ih _ _ (by subst h; show (b % 18446744073709551616 * 256 + x.toNat) % 18446744073709551616 = (b * 256 + x.toNat) % 18446744073709551616; omega)
  exact key l 0 0 rfl
theorem numV_le (l : List UInt8) (h : l.length ≤ 8) : numV l = valB l := by
  rw [numV_mod]
  have h1 := valB_lt _ l rfl
  have h2 : 256 ^ l.length ≤ 256 ^ 8 := Nat.pow_le_pow_right (by omega) h
  omega
theorem numV_lt (l : List UInt8) (n : Nat) (h : l.length ≤ n) (hn : n ≤ 8) : numV l < 256 ^ n := by
  rw [numV_le l (by omega)]
  have h1 := valB_lt _ l rfl
  have h2 : 256 ^ l.length ≤ 256 ^ n := Nat.pow_le_pow_right (by omega) h
  omega
theorem len_takeT (n : Nat) (s : ByteArray) (q : Bool) : (takeT n s q).size ≤ n := by
  unfold takeT
  split
  · exact Nat.zero_le _
  · show (s.extract 0 n).size ≤ n
    rw [ByteArray.size_extract]
    omega
def numT (n : Nat) (s : ByteArray) (q : Bool) : Nat := numV (takeT n s q).data.toList
theorem numT_lt (n : Nat) (s : ByteArray) (q : Bool) (hn : n ≤ 8) : numT n s q < 256 ^ n := numV_lt _ n (by rw [Array.length_toList]; exact len_takeT n s q) hn

set_option maxHeartbeats 1000000 in
theorem byte_read (b : Nat) (s : ByteArray) (q : Bool) (w : World) (h : Rdr w b s q) (hs : s.size ≤ 9223372036854775807) :
    Calls Try.prog 82 #[.pointer (some ⟨b, 0, none⟩)] w fun e w' => e = .returned (.int .u8 (numT 1 s q : Nat)) ∧ Rds w b (takeS 1 s q) (takeQ 1 s q) w' := by
  obtain ⟨t, ht⟩ : ∃ t, Hid (takeT 1 s q = t) := ⟨_, Lib.hid rfl⟩
  obtain ⟨m, hm⟩ : ∃ m, Hid (numT 1 s q = m) := ⟨_, Lib.hid rfl⟩
  have hml : m < 256 := by rw [← hm.out]; exact numT_lt 1 s q (by omega)
  have htl : Hid (t.size ≤ 9223372036854775807) := Lib.hid (by rw [← ht.out]; exact Nat.le_trans (len_takeT 1 s q) (by decide))
  have hm2 : Hid (numV t.data.toList = m) := Lib.hid (by rw [← ht.out]; exact hm.out)
  have HC := Lib.hid (take_any b 1 s q w h hs t _ _ ht.out rfl rfl)
  rw [hm.out]
  clear h
  go_enter Try.func82, Try.ntmps82
  go_wp2_with fail
  refine HC.out.mono ?_
  rintro e w1 ⟨rfl, hR⟩
  go_wp2_with fail
  refine (number_any t w1 htl.out m hm2.out).mono ?_
  rintro e w2 ⟨rfl, rfl⟩
  go_wp2
  go_ret
  exact ⟨rfl, hR⟩
set_option maxHeartbeats 1000000 in
theorem byte_nil (w : World) : Calls Try.prog 82 #[.pointer none] w fun e w' => e = .returned (.int .u8 0) ∧ w = w' := by
  go_enter Try.func82, Try.ntmps82
  go_wp2_with fail
  refine (take_nil 1 w).mono ?_
  rintro e w1 ⟨rfl, rfl⟩
  go_wp2_with fail
  refine (number_any ⟨#[]⟩ w (by decide) 0 rfl).mono ?_
  rintro e w2 ⟨rfl, rfl⟩
  go_wp2
  go_ret
  exact ⟨rfl, rfl⟩
set_option maxHeartbeats 1000000 in
theorem count_read (b : Nat) (s : ByteArray) (q : Bool) (w : World) (h : Rdr w b s q) (hs : s.size ≤ 9223372036854775807) :
    Calls Try.prog 84 #[.pointer (some ⟨b, 0, none⟩)] w fun e w' => e = .returned (.int .i64 (numT 2 s q : Nat)) ∧ Rds w b (takeS 2 s q) (takeQ 2 s q) w' := by
  obtain ⟨t, ht⟩ : ∃ t, Hid (takeT 2 s q = t) := ⟨_, Lib.hid rfl⟩
  obtain ⟨m, hm⟩ : ∃ m, Hid (numT 2 s q = m) := ⟨_, Lib.hid rfl⟩
  have hml : m < 65536 := by rw [← hm.out]; exact numT_lt 2 s q (by omega)
  have htl : Hid (t.size ≤ 9223372036854775807) := Lib.hid (by rw [← ht.out]; exact Nat.le_trans (len_takeT 2 s q) (by decide))
  have hm2 : Hid (numV t.data.toList = m) := Lib.hid (by rw [← ht.out]; exact hm.out)
  have HC := Lib.hid (take_any b 2 s q w h hs t _ _ ht.out rfl rfl)
  rw [hm.out]
  clear h
  go_enter Try.func84, Try.ntmps84
  go_wp2_with fail
  refine HC.out.mono ?_
  rintro e w1 ⟨rfl, hR⟩
  go_wp2_with fail
  refine (number_any t w1 htl.out m hm2.out).mono ?_
  rintro e w2 ⟨rfl, rfl⟩
  go_wp2
  go_ret
  exact ⟨rfl, hR⟩
set_option maxHeartbeats 1000000 in
theorem count_nil (w : World) : Calls Try.prog 84 #[.pointer none] w fun e w' => e = .returned (.int .i64 0) ∧ w = w' := by
  go_enter Try.func84, Try.ntmps84
  go_wp2_with fail
  refine (take_nil 2 w).mono ?_
  rintro e w1 ⟨rfl, rfl⟩
  go_wp2_with fail
  refine (number_any ⟨#[]⟩ w (by decide) 0 rfl).mono ?_
  rintro e w2 ⟨rfl, rfl⟩
  go_wp2
  go_ret
  exact ⟨rfl, rfl⟩
set_option maxHeartbeats 1000000 in
theorem num_read (b : Nat) (s : ByteArray) (q : Bool) (w : World) (h : Rdr w b s q) (hs : s.size ≤ 9223372036854775807) :
    Calls Try.prog 85 #[.pointer (some ⟨b, 0, none⟩)] w fun e w' => e = .returned (.int .i64 (wrap64 (numT 8 s q : Nat))) ∧ Rds w b (takeS 8 s q) (takeQ 8 s q) w' := by
  obtain ⟨t, ht⟩ : ∃ t, Hid (takeT 8 s q = t) := ⟨_, Lib.hid rfl⟩
  obtain ⟨m, hm⟩ : ∃ m, Hid (numT 8 s q = m) := ⟨_, Lib.hid rfl⟩
  have htl : Hid (t.size ≤ 9223372036854775807) := Lib.hid (by rw [← ht.out]; exact Nat.le_trans (len_takeT 8 s q) (by decide))
  have hm2 : Hid (numV t.data.toList = m) := Lib.hid (by rw [← ht.out]; exact hm.out)
  have HC := Lib.hid (take_any b 8 s q w h hs t _ _ ht.out rfl rfl)
  rw [hm.out]
  clear h
  go_enter Try.func85, Try.ntmps85
  go_wp2_with fail
  refine HC.out.mono ?_
  rintro e w1 ⟨rfl, hR⟩
  go_wp2_with fail
  refine (number_any t w1 htl.out m hm2.out).mono ?_
  rintro e w2 ⟨rfl, rfl⟩
  go_wp2
  go_ret
  exact ⟨rfl, hR⟩
set_option maxHeartbeats 1000000 in
theorem num_nil (w : World) : Calls Try.prog 85 #[.pointer none] w fun e w' => e = .returned (.int .i64 0) ∧ w = w' := by
  go_enter Try.func85, Try.ntmps85
  go_wp2_with fail
  refine (take_nil 8 w).mono ?_
  rintro e w1 ⟨rfl, rfl⟩
  go_wp2_with fail
  refine (number_any ⟨#[]⟩ w (by decide) 0 rfl).mono ?_
  rintro e w2 ⟨rfl, rfl⟩
  go_wp2
  go_ret
  exact ⟨rfl, rfl⟩
set_option maxHeartbeats 1000000 in
theorem bool_read (b : Nat) (s : ByteArray) (q : Bool) (w : World) (h : Rdr w b s q) (hs : s.size ≤ 9223372036854775807) :
    Calls Try.prog 83 #[.pointer (some ⟨b, 0, none⟩)] w fun e w' => e = .returned (.bool (numT 1 s q == 1)) ∧ Rds w b (takeS 1 s q) (takeQ 1 s q || decide (1 < numT 1 s q)) w' := by
  have HC := Lib.hid (byte_read b s q w h hs)
  obtain ⟨m, hm⟩ : ∃ m, Hid (numT 1 s q = m) := ⟨_, Lib.hid rfl⟩
  obtain ⟨q1, hq1⟩ : ∃ q1, Hid (takeQ 1 s q = q1) := ⟨_, Lib.hid rfl⟩
  rw [hm.out, hq1.out] at HC
  rw [hm.out, hq1.out]
  have hml : m < 256 := by rw [← hm.out]; exact numT_lt 1 s q (by omega)
  clear h
  by_cases h1 : 1 < m
  · have e1 : Hid ((q1 || decide (1 < m)) = true) := Lib.hid (by simp [h1])
    have e2 : Hid ((m == 1) = false) := Lib.hid (by simp; omega)
    have e3 : ((m : Int) == 1) = false := by simp; omega
    rw [e1.out, e2.out]
    go_enter Try.func83, Try.ntmps83
    go_wp2_with fail
    refine HC.out.mono ?_
    rintro e w1 ⟨rfl, hR⟩
    have HB := Lib.hid (break_any b _ _ w1 hR.1)
    have hk := Lib.hid hR.2
    clear hR HC
    go_wp2_with fail
    refine HB.out.mono ?_
    rintro e w2 ⟨rfl, hR2⟩
    go_wp2
    go_ret
    exact ⟨rfl, hR2.1, hk.out.trans hR2.2⟩
  · have e1 : Hid ((q1 || decide (1 < m)) = q1) := Lib.hid (by simp [h1])
    rw [e1.out]
    by_cases h2 : m = 1
    · subst h2
      go_enter Try.func83, Try.ntmps83
      go_wp2_with fail
      refine HC.out.mono ?_
      rintro e w1 ⟨rfl, hR⟩
      go_wp2
      go_ret
      exact ⟨rfl, hR⟩
    · obtain rfl : m = 0 := by omega
      go_enter Try.func83, Try.ntmps83
      go_wp2_with fail
      refine HC.out.mono ?_
      rintro e w1 ⟨rfl, hR⟩
      go_wp2
      go_ret
      exact ⟨rfl, hR⟩
set_option maxHeartbeats 1000000 in
theorem text_read (b : Nat) (s : ByteArray) (q : Bool) (w : World) (h : Rdr w b s q) (hs : s.size ≤ 9223372036854775807) (s2 : ByteArray) (q2 : Bool) (m : Nat) (h1 : takeS 2 s q = s2) (h2 : takeQ 2 s q = q2) (h3 : numT 2 s q = m) :
    Calls Try.prog 86 #[.pointer (some ⟨b, 0, none⟩)] w fun e w' => e = .returned (.string (takeT m s2 q2)) ∧ Rds w b (takeS m s2 q2) (takeQ m s2 q2) w' := by
  have HC := Lib.hid (count_read b s q w h hs)
  have hs2 : Hid (s2.size ≤ 9223372036854775807) := Lib.hid (by
    rw [← h1]
    unfold takeS
    split
    · exact hs
    · rw [ByteArray.size_extract]; omega)
  rw [h1, h2, h3] at HC
  clear h1 h2 h3 h
  go_enter Try.func86, Try.ntmps86
  go_wp2_with fail
  refine HC.out.mono ?_
  rintro e w1 ⟨rfl, hR⟩
  have HT := Lib.hid (take_any b m s2 q2 w1 hR.1 hs2.out _ _ _ rfl rfl rfl)
  have hk := Lib.hid hR.2
  clear hR HC
  go_wp2_with fail
  refine HT.out.mono ?_
  rintro e w2 ⟨rfl, hR2⟩
  go_wp2
  go_ret
  exact ⟨rfl, hR2.1, hk.out.trans hR2.2⟩
set_option maxHeartbeats 1000000 in
theorem text_nil (w : World) : Calls Try.prog 86 #[.pointer none] w fun e w' => e = .returned (.string ⟨#[]⟩) ∧ w = w' := by
  go_enter Try.func86, Try.ntmps86
  go_wp2_with fail
  refine (count_nil w).mono ?_
  rintro e w1 ⟨rfl, rfl⟩
  go_wp2_with fail
  refine (take_nil 0 w).mono ?_
  rintro e w2 ⟨rfl, rfl⟩
  go_wp2
  go_ret
  exact ⟨rfl, rfl⟩
/-- how many bytes are left; was all read? -/
def leftR (s : ByteArray) (q : Bool) : Nat := if q then 0 else s.size
def endR (s : ByteArray) (q : Bool) : Int := if q then 2 else if 0 < s.size then 5 else 0
set_option maxHeartbeats 1000000 in
theorem left_any (b : Nat) (s : ByteArray) (q : Bool) (w : World) (h : Rdr w b s q) (m : Nat) (hm : leftR s q = m) :
    Calls Try.prog 24 #[.pointer (some ⟨b, 0, none⟩)] w fun e w' => e = .returned (.int .i64 (m : Nat)) ∧ w = w' := by
  obtain ⟨c0, c1, f0, f1⟩ := h.cells
  clear h
  cases q
  · obtain rfl : s.size = m := hm
    go_enter Try.func24, Try.ntmps24
    go_wp2
    go_ret
    exact ⟨rfl, rfl⟩
  · obtain rfl : 0 = m := hm
    go_enter Try.func24, Try.ntmps24
    go_wp2
    go_ret
    exact ⟨rfl, rfl⟩
set_option maxHeartbeats 1000000 in
theorem left_nil (w : World) : Calls Try.prog 24 #[.pointer none] w fun e w' => e = .returned (.int .i64 0) ∧ w = w' := by
  go_enter Try.func24, Try.ntmps24
  go_wp2
  go_ret
  exact ⟨rfl, rfl⟩
set_option maxHeartbeats 1000000 in
theorem end_any (b : Nat) (s : ByteArray) (q : Bool) (w : World) (h : Rdr w b s q) (m : Int) (hm : endR s q = m) :
    Calls Try.prog 26 #[.pointer (some ⟨b, 0, none⟩)] w fun e w' => e = .returned (.int .i64 m) ∧ w = w' := by
  obtain ⟨c0, c1, f0, f1⟩ := h.cells
  clear h
  cases q
  · by_cases h0 : 0 < s.size
    · obtain rfl : 5 = m := by rw [← hm]; simp [endR, h0]
      have h0' : (0 : Int) < (s.size : Nat) := by omega
      clear hm
      go_enter Try.func26, Try.ntmps26
      go_wp2
      go_ret
      exact ⟨rfl, rfl⟩
    · obtain rfl : 0 = m := by rw [← hm]; simp [endR, h0]
      have h0' : ¬ (0 : Int) < (s.size : Nat) := by omega
      clear hm
      go_enter Try.func26, Try.ntmps26
      go_wp2
      go_ret
      exact ⟨rfl, rfl⟩
  · obtain rfl : 2 = m := hm
    go_enter Try.func26, Try.ntmps26
    go_wp2
    go_ret
    exact ⟨rfl, rfl⟩
set_option maxHeartbeats 1000000 in
theorem end_nil (w : World) : Calls Try.prog 26 #[.pointer none] w fun e w' => e = .returned (.int .i64 2) ∧ w = w' := by
  go_enter Try.func26, Try.ntmps26
  go_wp2
  go_ret
  exact ⟨rfl, rfl⟩
set_option maxHeartbeats 1000000 in
theorem newreader_any (s : ByteArray) (w : World) : Calls Try.prog 27 #[.string s] w fun e w' => e = .returned (.pointer (some ⟨w.heap.size, 0, none⟩)) ∧ w.alloc (.cells #[.string s, .bool false] 128) = w' := by
  go_enter Try.func27, Try.ntmps27
  go_wp2
  go_ret
  exact ⟨rfl, rfl⟩
end Go.Proofs.Ytfpocddpnoighaa.Wr

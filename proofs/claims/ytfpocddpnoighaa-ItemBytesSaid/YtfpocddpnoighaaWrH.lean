/- wire: a reader as it lies in memory; take, number. -/
import Derived.Test.YtfpocddpnoighaaWrA
import Derived.Lib.Strings
import Derived.Lib.IndexBytes
import Derived.WalkSpells
namespace Go.Proofs.Ytfpocddpnoighaa.Wr
open Go.RowKit Go.Proofs.Ytfpocddpnoighaa.L Go.Proofs.Ytfpocddpnoighaa.A Go.Proofs.Ytfpocddpnoighaa.S Go.Proofs.Ytfpocddpnoighaa.T
set_option linter.unusedVariables false
set_option linter.unusedSimpArgs false

/-- a reader: what is left, whether it is broken. -/
def Rdr (w : World) (b : Nat) (s : ByteArray) (q : Bool) : Prop := w.heap[b]? = some (.cells #[.string s, .bool q] 128 (0, 0))
theorem Rdr.cells {w : World} {b : Nat} {s : ByteArray} {q : Bool} (h : Rdr w b s q) : w.cell? ⟨b, 0, none⟩ = some (.string s) ∧ w.cell? ⟨b, 1, none⟩ = some (.bool q) ∧ w.frozen? ⟨b, 0, none⟩ = false ∧ w.frozen? ⟨b, 1, none⟩ = false := by
  unfold Rdr at h
  exact ⟨by rw [cell_of_row _ _ _ _ _ _ h]; rfl, by rw [cell_of_row _ _ _ _ _ _ h]; rfl, by simp [World.frozen?, h], by simp [World.frozen?, h]⟩
theorem Rdr.keep {S : List Nat} {w w' : World} {b : Nat} {s : ByteArray} {q : Bool} (h : Rdr w b s q) (hk : Keep S w w') (hb : b ∉ S) : Rdr w' b s q := keep_block hk h hb
theorem Rdr.lt {w : World} {b : Nat} {s : ByteArray} {q : Bool} (h : Rdr w b s q) : b < w.heap.size := (Array.getElem?_eq_some_iff.1 h).1
theorem Rdr.below {w w' : World} {b : Nat} {s : ByteArray} {q : Bool} (h : Rdr w b s q) (hb : Below w.heap.size w w') : Rdr w' b s q := h.keep (S := []) (.of_below hb) (by simp)
/-- what a call may have made of a reader. -/
def Rds (w : World) (b : Nat) (s : ByteArray) (q : Bool) (w' : World) : Prop := Rdr w' b s q ∧ Keep [b] w w'
theorem Rds.refl {w : World} {b : Nat} {s : ByteArray} {q : Bool} (h : Rdr w b s q) : Rds w b s q w := ⟨h, Keep.refl _ _⟩
theorem Rdr.set0 {w : World} {b : Nat} {s : ByteArray} {q : Bool} (h : Rdr w b s q) (t : ByteArray) : Rds w b t q (w.setCell ⟨b, 0, none⟩ (.string t)) := ⟨heap_setCell_at w b 0 _ _ _ _ h, (Keep.refl _ _).setCell (p := ⟨b, 0, none⟩) (.inl (by simp)) _⟩
theorem Rdr.set1 {w : World} {b : Nat} {s : ByteArray} {q : Bool} (h : Rdr w b s q) (t : Bool) : Rds w b s t (w.setCell ⟨b, 1, none⟩ (.bool t)) := ⟨heap_setCell_at w b 1 _ _ _ _ h, (Keep.refl _ _).setCell (p := ⟨b, 1, none⟩) (.inl (by simp)) _⟩
theorem rdr_new (w : World) (s : ByteArray) : Rdr (w.alloc (.cells #[.string s, .bool false] 128)) w.heap.size s false := heap_alloc_new _ _

set_option maxHeartbeats 1000000 in
theorem break_any (b : Nat) (s : ByteArray) (q : Bool) (w : World) (h : Rdr w b s q) :
    Calls Try.prog 28 #[.pointer (some ⟨b, 0, none⟩)] w fun e w' => e = .returned (.tuple #[]) ∧ Rds w b s true w' := by
  obtain ⟨c0, c1, f0, f1⟩ := h.cells
  have H := Lib.hid (h.set1 true)
  clear h
  go_enter Try.func28, Try.ntmps28
  go_wp2
  go_end0
  exact ⟨rfl, H.out⟩
set_option maxHeartbeats 1000000 in
theorem break_nil (w : World) : Calls Try.prog 28 #[.pointer none] w fun e w' => e = .returned (.tuple #[]) ∧ w = w' := by
  go_enter Try.func28, Try.ntmps28
  go_wp2
  go_end0
  exact ⟨rfl, rfl⟩
/-- what take gives; what is left; is it broken? -/
def takeT (n : Nat) (s : ByteArray) (q : Bool) : ByteArray := if q || decide (s.size < n) then ⟨#[]⟩ else s.extract 0 n
def takeS (n : Nat) (s : ByteArray) (q : Bool) : ByteArray := if q || decide (s.size < n) then s else s.extract n s.size
def takeQ (n : Nat) (s : ByteArray) (q : Bool) : Bool := q || decide (s.size < n)
set_option maxHeartbeats 1000000 in
theorem take_any (b : Nat) (n : Nat) (s : ByteArray) (q : Bool) (w : World) (h : Rdr w b s q) (hs : s.size ≤ 9223372036854775807) (t s' : ByteArray) (q' : Bool) (ht : takeT n s q = t) (hs' : takeS n s q = s') (hq' : takeQ n s q = q') :
    Calls Try.prog 127 #[.pointer (some ⟨b, 0, none⟩), .int .i64 n] w fun e w' => e = .returned (.string t) ∧ Rds w b s' q' w' := by
  obtain ⟨c0, c1, f0, f1⟩ := h.cells
  have HT := Lib.hid ht
  have HS := Lib.hid hs'
  have HQ := Lib.hid hq'
  have HB := Lib.hid (break_any b s q w h)
  have HN := Lib.hid (h.set0 (s.extract n s.size))
  clear h ht hs' hq'
  cases q
  · by_cases hn : s.size < n
    · have e1 : Hid (t = ⟨#[]⟩) := Lib.hid (by rw [← HT.out]; simp [takeT, hn])
      have e2 : Hid (s' = s) := Lib.hid (by rw [← HS.out]; simp [takeS, hn])
      have e3 : Hid (q' = true) := Lib.hid (by rw [← HQ.out]; simp [takeQ, hn])
      go_enter Try.func127, Try.ntmps127
      go_wp2_with fail
      refine HB.out.mono ?_
      rintro e w1 ⟨rfl, hR⟩
      go_wp2
      go_ret
      exact ⟨retv (congrArg Value.string e1.out.symm), by rw [e2.out, e3.out]; exact hR⟩
    · have hle : n ≤ s.size := by omega
      have e1 : Hid (t = s.extract 0 n) := Lib.hid (by rw [← HT.out]; simp [takeT, hn])
      have e2 : Hid (s' = s.extract n s.size) := Lib.hid (by rw [← HS.out]; simp [takeS, hn])
      have e3 : Hid (q' = false) := Lib.hid (by rw [← HQ.out]; simp [takeQ, hn])
      go_enter Try.func127, Try.ntmps127
      go_wp2
      go_ret
      exact ⟨retv (congrArg Value.string e1.out.symm), by rw [e2.out, e3.out]; exact HN.out⟩
  · have e1 : Hid (t = ⟨#[]⟩) := Lib.hid (by rw [← HT.out]; simp [takeT])
    have e2 : Hid (s' = s) := Lib.hid (by rw [← HS.out]; simp [takeS])
    have e3 : Hid (q' = true) := Lib.hid (by rw [← HQ.out]; simp [takeQ])
    go_enter Try.func127, Try.ntmps127
    go_wp2_with fail
    refine HB.out.mono ?_
    rintro e w1 ⟨rfl, hR⟩
    go_wp2
    go_ret
    exact ⟨retv (congrArg Value.string e1.out.symm), by rw [e2.out, e3.out]; exact hR⟩
set_option maxHeartbeats 1000000 in
theorem take_nil (n : Int) (w : World) : Calls Try.prog 127 #[.pointer none, .int .i64 n] w fun e w' => e = .returned (.string ⟨#[]⟩) ∧ w = w' := by
  go_enter Try.func127, Try.ntmps127
  go_wp2_with fail
  refine (break_nil w).mono ?_
  rintro e w1 ⟨rfl, rfl⟩
  go_wp2
  go_ret
  exact ⟨rfl, rfl⟩

theorem bits_or64 (a b : Nat) (ha : a < 2 ^ 64) (hb : b < 2 ^ 64) : bits .or .u64 (a : Int) (b : Int) = ((a ||| b : Nat) : Int) := by
  have hx := Nat.or_lt_two_pow ha hb
  have e : (BitVec.ofNat 64 a ||| BitVec.ofNat 64 b).toNat = a ||| b := by
    rw [BitVec.toNat_or, BitVec.toNat_ofNat, BitVec.toNat_ofNat, Nat.mod_eq_of_lt ha, Nat.mod_eq_of_lt hb]
  show IntKind.u64.wrap (((BitVec.ofNat 64 a ||| BitVec.ofNat 64 b).toNat : Nat) : Int) = _
  rw [e, IntKind.wrap_u64]
  omega
theorem or_step (j x : Nat) (hx : x < 256) : bits .or .u64 (IntKind.u64.wrap ((j : Int) * 256)) (IntKind.u64.wrap (x : Int)) = (((j * 256 + x) % 18446744073709551616 : Nat) : Int) := by
  have e1 : IntKind.u64.wrap ((j : Int) * 256) = ((j * 256 % 18446744073709551616 : Nat) : Int) := by rw [IntKind.wrap_u64]; omega
  have e2 : IntKind.u64.wrap (x : Int) = ((x : Nat) : Int) := by rw [IntKind.wrap_u64]; omega
  rw [e1, e2, bits_or64 _ _ (by omega) (by omega)]
  have e3 : j * 256 % 18446744073709551616 = 2 ^ 8 * (j % 72057594037927936) := by omega
  rw [e3, ← Nat.two_pow_add_eq_or_of_lt (show x < 2 ^ 8 by omega)]
  congr 1
  omega
/-- bytes as a number, the highest first. -/
def numV (l : List UInt8) : Nat := l.foldl (fun n x => (n * 256 + x.toNat) % 18446744073709551616) 0
theorem numV_snoc (l : List UInt8) (x : UInt8) : numV (l ++ [x]) = (numV l * 256 + x.toNat) % 18446744073709551616 := by simp [numV]
set_option maxHeartbeats 1000000 in
theorem number_any (s : ByteArray) (w : World) (hs : s.size ≤ 9223372036854775807) (m : Nat) (hm : numV s.data.toList = m) :
    Calls Try.prog 126 #[.string s] w fun e w' => e = .returned (.int .u64 (m : Nat)) ∧ w = w' := by
  have HM := Lib.hid hm
  clear hm
  go_enter Try.func126, Try.ntmps126
  go_wp2
  go_loopw [3, 4] (fun n i wr => ∃ k j : Nat, k ≤ s.size ∧ i = .int .i64 k ∧ n = .int .u64 j ∧ j < 18446744073709551616 ∧ Hid (numV (s.data.toList.take k) = j) ∧ wr = w) (fun _ i _ => s.size - (intOf i).toNat)
  case atStart => exact ⟨0, 0, by omega, rfl, rfl, by omega, Lib.hid rfl, rfl⟩
  case round =>
    obtain ⟨k, j, hk, rfl, rfl, hj, hn, rfl⟩ := hrel
    by_cases hlt : k < s.size
    · have hx := or_step j s[k].toNat (UInt8.toNat_lt _)
      obtain ⟨y, hy⟩ : ∃ y : Nat, Hid ((j * 256 + s[k].toNat) % 18446744073709551616 = y) := ⟨_, Lib.hid rfl⟩
      rw [hy.out] at hx
      have hy2 : Hid (y < 18446744073709551616) := Lib.hid (by rw [← hy.out]; omega)
      have hy3 : Hid (numV (s.data.toList.take (k + 1)) = y) := Lib.hid (by
        rw [List.take_succ_eq_append_getElem (by simpa using hlt), numV_snoc, hn.out, ← hy.out]
        rfl)
      clear hn
      go_wp2
      go_roundw
      case rel => exact ⟨k + 1, y, by omega, by go_num, by first | rfl | rw [hx], hy2.out, hy3, trivial⟩
      case measure => simp [intOf]; omega
    · have hres : Hid (j = m) := Lib.hid (by
        rw [← hn.out, ← HM.out, List.take_of_length_le]
        simp
        show s.size ≤ k
        omega)
      go_wp2
      go_ret
      exact ⟨reti (by rw [hres.out]), rfl⟩
end Go.Proofs.Ytfpocddpnoighaa.Wr

/- WirePuts, in plain Lean: what was put is found again. -/
import Derived.Test.YtfpocddpnoighaaWrP
namespace Go.Proofs.Ytfpocddpnoighaa.Wr
open Go.RowKit Go.Proofs.Ytfpocddpnoighaa.L Go.Proofs.Ytfpocddpnoighaa.O Go.Proofs.Ytfpocddpnoighaa.A Go.Proofs.Ytfpocddpnoighaa.S Go.Proofs.Ytfpocddpnoighaa.T Go.Proofs.Ytfpocddpnoighaa.E
set_option linter.unusedVariables false
set_option linter.unusedSimpArgs false

def str (l : List UInt8) : ByteArray := ⟨l.toArray⟩
theorem str_size (l : List UInt8) : (str l).size = l.length := by show l.toArray.size = _; simp
theorem str_list (l : List UInt8) : (str l).data.toList = l := rfl
theorem str_ext0 (l : List UInt8) (n : Nat) : (str l).extract 0 n = str (l.take n) := by
  rw [Lib.extract_eq, str_list, List.drop_zero, Nat.sub_zero]; rfl
theorem str_ext (l : List UInt8) (a b : Nat) : (str l).extract a b = str ((l.drop a).take (b - a)) := by
  rw [Lib.extract_eq, str_list]; rfl
theorem str_drop (l : List UInt8) (a : Nat) : (str l).extract a (str l).size = str (l.drop a) := by
  rw [str_ext, str_size, List.take_of_length_le (by simp)]
theorem valB_big : ∀ (n V : Nat), V < 256 ^ n → valB (bigB V n) = V := by
  intro n
  induction n with
  | zero => intro V h; simp at h; subst h; rfl
  | succ n ih =>
    intro V h
    have hV : V = V / 256 * 256 + V % 256 := by omega
    have h1 : V / 256 < 256 ^ n := by rw [Nat.pow_succ] at h; omega
    conv => lhs; rw [hV]
    rw [bigB_snoc _ _ _ (Nat.mod_lt _ (by omega)), valB_snoc, ih _ h1]
    simp
    omega
theorem head_str (n V : Nat) (rest : List UInt8) (hn : n ≤ 8) (hV : V < 256 ^ n) : headV n (str (bigB V n ++ rest)) = V := by
  unfold headV
  rw [str_ext0, List.take_left' (len_big V n), str_list, numV_le _ (by rw [len_big]; omega), valB_big n V hV]
theorem len_str1 (V n : Nat) (rest : List UInt8) : ¬ (str (bigB V n ++ rest)).size < n := by rw [str_size, List.length_append, len_big]; omega
theorem put_found (x : Th) (h0 : 0 ≤ x.k) (h4 : x.k ≤ 4) (hok : putOk x = true) (k : Nat) (hk : x.k = k) : ∃ N T, ∀ rest, refG k (str (putB x ++ rest)) = some (N, T, (putB x).length) := by
  obtain ⟨xk, n, s⟩ := x
  dsimp only at h0 h4 hk
  subst hk
  rcases (by omega : k = 0 ∨ k = 1 ∨ k = 2 ∨ k = 3 ∨ k = 4) with rfl | rfl | rfl | rfl | rfl
  · have e : putB ⟨((0 : Nat) : Int), n, s⟩ = bigB (n % 256).toNat 1 := by
      simp [putB, bigB]
      rw [Nat.mod_eq_of_lt (by omega)]
    refine ⟨wrap64 ((n % 256).toNat : Nat), ⟨#[]⟩, fun rest => ?_⟩
    have hsz := len_str1 (n % 256).toNat 1 rest
    rw [e]
    simp [refG, szOf, hsz, head_str 1 (n % 256).toNat rest (by omega) (by omega), len_big]
  · have e : putB ⟨((1 : Nat) : Int), n, s⟩ = bigB (if n = 1 then 1 else 0) 1 := by
      by_cases h : n = 1
      · simp [putB, h]; rfl
      · simp [putB, h]; rfl
    have hV : (if n = 1 then 1 else 0) ≤ 1 := by split <;> omega
    obtain ⟨V, hVe⟩ : ∃ V, V = (if n = 1 then 1 else 0) := ⟨_, rfl⟩
    rw [← hVe] at e hV
    refine ⟨wrap64 (V : Nat), ⟨#[]⟩, fun rest => ?_⟩
    have hsz := len_str1 V 1 rest
    have hno : ¬ 1 < V := by omega
    rw [e]
    simp [refG, szOf, hsz, head_str 1 V rest (by omega) (by omega), len_big, hno]
  · have hk2 : okN n = true := by simpa [putOk] using hok
    have hn : 0 ≤ n ∧ n ≤ 65535 := by simpa [okN] using hk2
    have e : putB ⟨((2 : Nat) : Int), n, s⟩ = bigB n.toNat 2 := by simp [putB, hk2]
    refine ⟨wrap64 (n.toNat : Nat), ⟨#[]⟩, fun rest => ?_⟩
    have hsz := len_str1 n.toNat 2 rest
    rw [e]
    simp [refG, szOf, hsz, head_str 2 n.toNat rest (by omega) (by omega), len_big]
  · have e : putB ⟨((3 : Nat) : Int), n, s⟩ = bigB (u64 n) 8 := by simp [putB]
    refine ⟨wrap64 (u64 n : Nat), ⟨#[]⟩, fun rest => ?_⟩
    have hsz := len_str1 (u64 n) 8 rest
    have hu : u64 n < 256 ^ 8 := by unfold u64; omega
    rw [e]
    simp [refG, szOf, hsz, head_str 8 (u64 n) rest (by omega) hu, len_big]
  · have hk2 : okN (s.size : Nat) = true := by simpa [putOk] using hok
    have hn : s.size ≤ 65535 := by simp [okN] at hk2; omega
    have e : putB ⟨((4 : Nat) : Int), n, s⟩ = bigB s.size 2 ++ s.data.toList := by simp [putB, textB, hk2]
    refine ⟨0, str s.data.toList, fun rest => ?_⟩
    have hsl : s.data.toList.length = s.size := by rw [Array.length_toList]; rfl
    have hsz : ¬ (str (bigB s.size 2 ++ s.data.toList ++ rest)).size < 2 := by rw [str_size]; simp [len_big]
    have hhd : headV 2 (str (bigB s.size 2 ++ s.data.toList ++ rest)) = s.size := by rw [List.append_assoc]; exact head_str 2 s.size _ (by omega) (by omega)
    have hno : ¬ (str (bigB s.size 2 ++ s.data.toList ++ rest)).size - 2 < s.size := by rw [str_size]; simp [len_big, hsl]
    have hex : (str (bigB s.size 2 ++ s.data.toList ++ rest)).extract 2 (2 + s.size) = str s.data.toList := by
      rw [str_ext, List.append_assoc, List.drop_left' (len_big s.size 2), show 2 + s.size - 2 = s.size by omega, List.take_left' hsl]
    rw [e]
    simp only [refG, szOf, hsz, if_false, hhd, hno, hex]
    simp [len_big, hsl]
/-- the thing read again, of a text that begins with its bytes. -/
theorem read_again (x : Th) (h0 : 0 ≤ x.k) (h4 : x.k ≤ 4) (hok : putOk x = true) (k : Nat) (hk : x.k = k) : ∃ N T, refG k (str (putB x)) = some (N, T, (putB x).length) ∧ ∀ rest, readR k (str (putB x ++ rest)) false = ⟨N, T, str rest, false⟩ := by
  obtain ⟨N, T, h⟩ := put_found x h0 h4 hok k hk
  refine ⟨N, T, by simpa using h [], fun rest => ?_⟩
  obtain ⟨h1, _, _⟩ := read_some k (by omega) _ N T _ (h rest)
  rw [h1, str_drop, List.drop_left' rfl]
end Go.Proofs.Ytfpocddpnoighaa.Wr

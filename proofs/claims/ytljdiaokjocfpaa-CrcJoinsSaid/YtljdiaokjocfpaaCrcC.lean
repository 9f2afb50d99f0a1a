/- The laws' own helpers. -/
import Derived.Test.YtljdiaokjocfpaaCrcB
namespace Go.Proofs.Ytljdiaokjocfpaa.Crc
open Go.RowKit Go.Proofs.Ytljdiaokjocfpaa.L
set_option linter.unusedVariables false
set_option linter.unusedSimpArgs false

def cat (ss : List ByteArray) : ByteArray := ⟨(ss.flatMap fun s => s.data.toList).toArray⟩
theorem sb_cat (ss : List ByteArray) : sb (cat ss) = sbs ss := by
  simp only [sb, cat, sbs, List.map_flatMap]
  rfl
def total (ss : List ByteArray) : Nat := (ss.map ByteArray.size).sum
theorem cat_size (ss : List ByteArray) : (cat ss).size = total ss := by
  have h := sb_length (cat ss)
  rw [sb_cat] at h
  rw [← h]
  simp [sbs, total, List.length_flatMap, sb_length]
theorem cat_take (ss : List ByteArray) (k : Nat) (h : k < ss.length) : cat (ss.take (k + 1)) = cat (ss.take k) ++ ss[k] := by
  unfold cat
  rw [List.take_succ_eq_append_getElem h, List.flatMap_append]
  apply ByteArray.ext
  rw [ByteArray.data_append]
  simp
theorem total_take (ss : List ByteArray) (k : Nat) : total (ss.take k) ≤ total ss := by
  have h : total ss = total (ss.take k) + total (ss.drop k) := by
    unfold total
    rw [← List.sum_append, ← List.map_append, List.take_append_drop]
  omega
theorem total_succ (ss : List ByteArray) (k : Nat) (h : k < ss.length) : total (ss.take (k + 1)) = total (ss.take k) + ss[k].size := by
  unfold total
  rw [List.take_succ_eq_append_getElem h, List.map_append, List.sum_append]
  simp

theorem joined_any (A : Option Addr) (n c : Nat) (ss : List ByteArray) (w : World) (hr : Rd w A n (ss.map Value.string)) (hss : total ss ≤ 9223372036854775806) :
    Calls Try.prog 17 #[.slice A n c] w fun e w' => e = .returned (.string (cat ss)) ∧ w = w' := by
  have HL := Lib.hid hr.len
  have hn := hr.2.1
  go_enter Try.func17, Try.ntmps17
  go_wp2
  go_loop [3, 4] (fun s i => ∃ k : Nat, k ≤ n ∧ i = .int .i64 k ∧ s = .string (cat (ss.take k))) (fun _ i => n - (intOf i).toNat)
  case atStart => exact ⟨0, by omega, rfl, rfl⟩
  case round =>
    obtain ⟨k, hk, rfl, rfl⟩ := hrel
    by_cases hlt : k < n
    · obtain ⟨b, o, rfl, hc⟩ := hr.2.2 (by omega)
      have hkl : k < ss.length := by have := HL.out; simp at this; omega
      obtain ⟨tx, htx⟩ : ∃ x : ByteArray, Hid (x = ss[k]) := ⟨_, Lib.hid rfl⟩
      have hcell : w.cell? ⟨b, o + k, none⟩ = some (.string tx) := by
        rw [hc k hlt, htx.out]; simp [hkl]
      obtain ⟨T, hT⟩ : ∃ x : ByteArray, Hid (x = cat (ss.take k)) := ⟨_, Lib.hid rfl⟩
      have hT2 : Hid (cat (ss.take (k + 1)) = T ++ tx) := Lib.hid (by rw [cat_take ss k hkl, hT.out, htx.out])
      have hsz : T.size + tx.size ≤ 9223372036854775807 := by
        have h1 := cat_size (ss.take (k + 1))
        rw [hT2.out] at h1
        have h2 := total_take ss (k + 1)
        simp at h1
        omega
      rw [← hT.out]
      clear hr hc
      go_wp2
      go_round
      case rel => exact ⟨k + 1, by omega, by go_num, by rw [hT2.out]⟩
      case measure => simp [intOf]; omega
    · have hke : k = n := by omega
      subst hke
      have hfin : Hid (cat (ss.take k) = cat ss) := Lib.hid (by rw [List.take_of_length_le]; have := HL.out; simp at this; omega)
      rw [hfin.out]
      clear hlt hk
      go_wp2
      go_ret
      exact ⟨rfl, rfl⟩
def longB (ss : List ByteArray) : Bool := decide (60 < ss.length ∨ 3000 < total ss)
theorem long_any (A : Option Addr) (n c : Nat) (ss : List ByteArray) (w : World) (hr : Rd w A n (ss.map Value.string)) (hss : ∀ s ∈ ss, s.size ≤ 140737488351232) :
    Calls Try.prog 14 #[.slice A n c] w fun e w' => e = .returned (.bool (longB ss)) ∧ w = w' := by
  have HL := Lib.hid hr.len
  have hn := hr.2.1
  by_cases h60 : 60 < n
  · have hd : Hid (longB ss = true) := Lib.hid (by have := HL.out; simp at this; simp [longB]; omega)
    go_enter Try.func14, Try.ntmps14
    go_wp2
    go_ret
    exact ⟨retb hd.out, rfl⟩
  · go_enter Try.func14, Try.ntmps14
    go_wp2
    go_loop [3, 11] (fun m i => ∃ k : Nat, k ≤ n ∧ i = .int .i64 k ∧ m = .int .i64 (total (ss.take k) : Nat) ∧ total (ss.take k) ≤ 3000) (fun _ i => n - (intOf i).toNat)
    case atStart => exact ⟨0, by omega, rfl, rfl, by simp [total]⟩
    case round =>
      obtain ⟨k, hk, rfl, rfl, h3⟩ := hrel
      by_cases hlt : k < n
      · obtain ⟨b, o, rfl, hc⟩ := hr.2.2 (by omega)
        have hkl : k < ss.length := by have := HL.out; simp at this; omega
        obtain ⟨tx, htx⟩ : ∃ x : ByteArray, Hid (x = ss[k]) := ⟨_, Lib.hid rfl⟩
        have hcell : w.cell? ⟨b, o + k, none⟩ = some (.string tx) := by
          rw [hc k hlt, htx.out]; simp [hkl]
        have hts : tx.size ≤ 140737488351232 := hss _ (by rw [htx.out]; exact List.getElem_mem _)
        obtain ⟨T, hT⟩ : ∃ x : Nat, Hid (x = total (ss.take k)) := ⟨_, Lib.hid rfl⟩
        have hT2 : Hid (total (ss.take (k + 1)) = T + tx.size) := Lib.hid (by rw [total_succ ss k hkl, hT.out, htx.out])
        rw [← hT.out] at h3 ⊢
        clear hr hc
        by_cases hbig : 3000 < T + tx.size
        · have hd : Hid (longB ss = true) := Lib.hid (by
            have h2 := total_take ss (k + 1)
            rw [hT2.out] at h2
            simp [longB]; omega)
          go_wp2
          go_ret
          exact ⟨retb hd.out, rfl⟩
        · go_wp2
          go_round
          case rel => exact ⟨k + 1, by omega, by go_num, by rw [hT2.out]; go_num, by rw [hT2.out]; omega⟩
          case measure => simp [intOf]; omega
      · have hke : k = n := by omega
        subst hke
        have hd : Hid (longB ss = false) := Lib.hid (by
          have hl := HL.out
          rw [List.take_of_length_le (by simp at hl; omega)] at h3
          simp at hl
          simp [longB]; omega)
        clear hlt hk h3
        go_wp2
        go_ret
        exact ⟨retbf hd.out, rfl⟩
theorem v9 : more 0 (sbs [⟨#[49, 50, 51, 52, 53, 54, 55, 56, 57]⟩]) = 3421780262 := by decide +kernel
theorem v45 : more 0 (sbs [⟨#[49, 50, 51, 52]⟩, ⟨#[53, 54, 55, 56, 57]⟩]) = 3421780262 := by decide +kernel
theorem v0 : more 0 (sbs []) = 0 := by decide +kernel
theorem awake_any (w : World) :
    Calls Try.prog 13 #[] w fun e w' => e = .returned (.bool true) ∧ Below w.heap.size w w' := by
  go_enter Try.func13, Try.ntmps13
  go_wp2_with fail
  refine (sum_any _ 1 1 [⟨#[49, 50, 51, 52, 53, 54, 55, 56, 57]⟩] _ (rd_alloc w _ _ 1 rfl (by decide)) (by decide)).mono ?_
  rintro e w1 ⟨rfl, hb1⟩
  rw [v9]
  go_wp2_with fail
  refine (sum_any _ 2 2 [⟨#[49, 50, 51, 52]⟩, ⟨#[53, 54, 55, 56, 57]⟩] _ (rd_alloc w1 _ _ 2 rfl (by decide)) (by decide)).mono ?_
  rintro e w2 ⟨rfl, hb2⟩
  rw [v45]
  go_wp2_with fail
  refine (sum_any _ 0 0 [] _ (rd_nil _ _) (by simp)).mono ?_
  rintro e w3 ⟨rfl, hb3⟩
  rw [v0]
  go_wp2_with fail
  go_ret
  exact ⟨rfl, below2 (below2 (below_new (below2 (below_new (Below.refl _ _) _) hb1) _) hb2) hb3⟩
end Go.Proofs.Ytljdiaokjocfpaa.Crc

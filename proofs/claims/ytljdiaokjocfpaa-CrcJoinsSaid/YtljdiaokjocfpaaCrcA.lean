/- The walks of the check sum's functions. -/
import Derived.Test.YtljdiaokjocfpaaProg
import Derived.Test.YtljdiaokjocfpaaCrcM
import Derived.Test.YtljdiaokjocfpaaL
namespace Go.Proofs.Ytljdiaokjocfpaa.Crc
open Go.RowKit Go.Proofs.Ytljdiaokjocfpaa.L
set_option linter.unusedVariables false
set_option linter.unusedSimpArgs false

theorem f1_odd (x : Nat) (hx : x < 2 ^ 32) (h : (bits BinOp.and IntKind.u32 (x : Int) 1 == 1) = true) : bits BinOp.xor IntKind.u32 ((x : Int) / 2) 3988292384 = (f1 x : Int) := by
  have e := bits_and32 x 1 hx (by decide)
  have e2 : ((x : Int) / 2) = ((x / 2 : Nat) : Int) := by omega
  have h3 := bits_xor32 (x / 2) poly (by omega) poly_lt
  rw [show ((1 : Int)) = ((1 : Nat) : Int) from rfl, e, beq_iff_eq] at h
  have h1 : x &&& 1 = 1 := by omega
  rw [Nat.and_one_is_mod] at h1
  rw [e2, show (3988292384 : Int) = ((poly : Nat) : Int) from rfl, h3]
  unfold f1
  rw [if_pos h1]
theorem f1_even (x : Nat) (hx : x < 2 ^ 32) (h : (bits BinOp.and IntKind.u32 (x : Int) 1 == 1) = false) : ((x : Int) / 2) = (f1 x : Int) := by
  have e := bits_and32 x 1 hx (by decide)
  rw [show ((1 : Int)) = ((1 : Nat) : Int) from rfl, e] at h
  have h1 : x &&& 1 ≠ 1 := by
    intro h1
    rw [h1] at h
    simp at h
  rw [Nat.and_one_is_mod] at h1
  unfold f1
  rw [if_neg h1]
  omega
theorem fk4 (s : Nat) : fk s 4 = f4 s := rfl
theorem fk_lt (s : Nat) (h : s < 2 ^ 32) : ∀ k, fk s k < 2 ^ 32 := by
  intro k
  induction k with
  | zero => exact h
  | succ k ih => exact f1_lt ih

theorem step_any (s : Nat) (w : World) (hs : s < 2 ^ 32) :
    Calls Try.prog 49 #[.int .u32 s] w fun e w' => e = .returned (.int .u32 (f4 s : Nat)) ∧ w = w' := by
  go_enter Try.func49, Try.ntmps49
  go_wp2
  go_loop [0, 3, 4] (fun s' l i => ∃ k : Nat, k ≤ 4 ∧ i = .int .i64 k ∧ s' = .int .u32 (fk s k : Nat)) (fun _ _ i => 4 - (intOf i).toNat)
  case atStart => exact ⟨0, by omega, rfl, rfl⟩
  case round =>
    obtain ⟨k, hk, rfl, rfl⟩ := hrel
    have hlt := fk_lt s hs k
    go_wp2
    · rename_i h1 h2
      go_round
      case rel => exact ⟨k + 1, by omega, by go_num, by rw [f1_odd _ hlt (by assumption)]; rfl⟩
      case measure => simp [intOf]; omega
    · go_round
      case rel => exact ⟨k + 1, by omega, by go_num, by rw [f1_even _ hlt (by assumption)]; rfl⟩
      case measure => simp [intOf]; omega
    · have : k = 4 := by omega
      subst this
      go_ret
      exact ⟨rfl, rfl⟩
end Go.Proofs.Ytljdiaokjocfpaa.Crc

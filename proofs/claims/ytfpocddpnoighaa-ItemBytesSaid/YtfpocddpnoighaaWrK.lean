/- WireNone, WireBreaks: the walks. -/
import Derived.Test.YtfpocddpnoighaaWrJ
import Derived.Laws.StructEq
namespace Go.Proofs.Ytfpocddpnoighaa.Wr
open Go.RowKit Go.Proofs.Ytfpocddpnoighaa.L Go.Proofs.Ytfpocddpnoighaa.A Go.Proofs.Ytfpocddpnoighaa.S Go.Proofs.Ytfpocddpnoighaa.T Go.Proofs.Ytfpocddpnoighaa.O Go.Proofs.Ytfpocddpnoighaa.E
set_option linter.unusedVariables false
set_option linter.unusedSimpArgs false

theorem th_refl' (d : Nat) (k n : Int) (s : ByteArray) (w : World) : (Op.equalIn (d + 4) 32 (.agg #[.int .i64 k, .int .i64 n, .string s]) (.agg #[.int .i64 k, .int .i64 n, .string s])).run Try.prog w = .ok true w := by
  have hp : Try.prog.stoodInHeld 32 = false := by kernel_rfl
  have hf : Try.prog.underlying 32 = some (.struct (Try.prog.fieldsOf 32)) := by kernel_rfl
  rw [run_equalIn_agg w _ _ _ _ hf hp]
  clear hf hp
  go_simp
theorem th_refl (k n : Int) (s : ByteArray) (w : World) : (Op.equalIn 10000 32 (.agg #[.int .i64 k, .int .i64 n, .string s]) (.agg #[.int .i64 k, .int .i64 n, .string s])).run Try.prog w = .ok true w := th_refl' 9996 k n s w
theorem th_guard : Try.prog.eqGuardType Try.prog.depth 32 = false := by kernel_rfl

set_option maxHeartbeats 1000000 in
theorem bool_nil (w : World) : Calls Try.prog 83 #[.pointer none] w fun e w' => e = .returned (.bool false) ∧ w = w' := by
  go_enter Try.func83, Try.ntmps83
  go_wp2_with fail
  refine (byte_nil w).mono ?_
  rintro e w1 ⟨rfl, rfl⟩
  go_wp2
  go_ret
  exact ⟨rfl, rfl⟩
theorem get_nil (k : Nat) (hk : k ≤ 4) (w : World) : Calls Try.prog 25 #[.pointer none, .int .i64 k] w fun e w' => e = .returned (.agg #[.int .i64 k, .int .i64 0, .string ⟨#[]⟩]) ∧ Below w.heap.size w w' := by
  have key : ∀ {P : Prop} {w' : World}, True ∧ Keep [] w w' → Below w.heap.size w w' := fun h => h.2.below (Nat.le_refl _) (by simp)
  rcases (by omega : k = 0 ∨ k = 1 ∨ k = 2 ∨ k = 3 ∨ k = 4) with rfl | rfl | rfl | rfl | rfl
  · exact (get0 none [] 0 (by omega) (fun _ => True) w (fun W _ => (byte_nil W).mono fun e w' ⟨he, hw⟩ => ⟨he, trivial, hw ▸ Keep.refl _ _⟩) (by simp) (fun _ _ _ _ => trivial)).mono fun e w' ⟨he, h⟩ => ⟨he, key (P := True) h⟩
  · exact (get1f none [] (fun _ => True) w (fun W _ => (bool_nil W).mono fun e w' ⟨he, hw⟩ => ⟨he, trivial, hw ▸ Keep.refl _ _⟩) (by simp) (fun _ _ _ _ => trivial)).mono fun e w' ⟨he, h⟩ => ⟨he, key (P := True) h⟩
  · exact (get2 none [] 0 (fun _ => True) w (fun W _ => (count_nil W).mono fun e w' ⟨he, hw⟩ => ⟨he, trivial, hw ▸ Keep.refl _ _⟩) (by simp) (fun _ _ _ _ => trivial)).mono fun e w' ⟨he, h⟩ => ⟨he, key (P := True) h⟩
  · exact (get3 none [] 0 (fun _ => True) w (fun W _ => (num_nil W).mono fun e w' ⟨he, hw⟩ => ⟨he, trivial, hw ▸ Keep.refl _ _⟩) (by simp) (fun _ _ _ _ => trivial)).mono fun e w' ⟨he, h⟩ => ⟨he, key (P := True) h⟩
  · exact (get4 none [] ⟨#[]⟩ (fun _ => True) w (fun W _ => (text_nil W).mono fun e w' ⟨he, hw⟩ => ⟨he, trivial, hw ▸ Keep.refl _ _⟩) (by simp) (fun _ _ _ _ => trivial)).mono fun e w' ⟨he, h⟩ => ⟨he, key (P := True) h⟩
set_option maxHeartbeats 1000000 in
theorem none_walk (k : Nat) (hk : k < 256) (w : World) : Calls Try.prog 4 #[.int .u8 k] w fun e w' => e = .returned (.bool true) ∧ Below w.heap.size w w' := by
  obtain ⟨r, hr⟩ : ∃ r : Nat, k % 5 = r := ⟨_, rfl⟩
  have hr4 : r ≤ 4 := by omega
  have hri : (k : Int) % 5 = (r : Int) := by omega
  have hm := th_guard
  by_cases h1 : r = 1
  · subst h1
    go_enter Try.func4, Try.ntmps4
    go_wp2_with fail
    refine (awake_any w).mono ?_
    rintro e w1 ⟨rfl, hb1⟩
    go_wp2_with fail
    refine (left_nil w1).mono ?_
    rintro e w2 ⟨rfl, rfl⟩
    go_wp2
    go_ret
    exact ⟨rfl, hb1⟩
  · have h1' : ((r : Int) == 1) = false := by simp; omega
    have heq := th_refl r 0 ⟨#[]⟩
    clear hr h1
    go_enter Try.func4, Try.ntmps4
    go_wp2_with fail
    refine (awake_any w).mono ?_
    rintro e w1 ⟨rfl, hb1⟩
    go_wp2_with fail
    refine (get_nil r hr4 w1).mono ?_
    rintro e w2 ⟨rfl, hb2⟩
    go_wp2_with fail
    refine (left_nil w2).mono ?_
    rintro e w3 ⟨rfl, rfl⟩
    go_wp2_with fail
    refine (end_nil w2).mono ?_
    rintro e w3 ⟨rfl, rfl⟩
    go_wp2
    go_ret
    exact ⟨rfl, below2 hb1 hb2⟩
theorem none_row (w : World) (k : Int) (hk : (Lit.int .u8 k).wf = true) : Calls Try.prog 4 #[.int .u8 k] w fun e w' => e = .returned (.bool true) ∧ Below w.heap.size w w' := by
  have hw := u8_wf hk
  obtain ⟨m, rfl⟩ : ∃ m : Nat, k = (m : Int) := ⟨k.toNat, by omega⟩
  exact none_walk m (by omega) w

theorem takeT_broken (n : Nat) (s : ByteArray) : takeT n s true = ⟨#[]⟩ := rfl
theorem numT_broken (n : Nat) (s : ByteArray) : numT n s true = 0 := rfl
theorem get_broken (k : Nat) (hk : k ≤ 4) (b : Nat) (s : ByteArray) (hs : s.size ≤ 9223372036854775807) (w : World) (h : Rdr w b s true) : Calls Try.prog 25 #[.pointer (some ⟨b, 0, none⟩), .int .i64 k] w fun e w' => e = .returned (.agg #[.int .i64 k, .int .i64 0, .string ⟨#[]⟩]) ∧ Rds w b s true w' := by
  have hb := h.lt
  have hG : ∀ u v, Rdr u b s true → Keep [w.heap.size, w.heap.size + 1] u v → Rdr v b s true := fun u v h hk => h.keep hk (by simp; omega)
  have hS : ∀ k ∈ [b], k < w.heap.size := by simpa using hb
  have hz : wrap64 ((0 : Nat) : Int) = 0 := by kernel_rfl
  rcases (by omega : k = 0 ∨ k = 1 ∨ k = 2 ∨ k = 3 ∨ k = 4) with rfl | rfl | rfl | rfl | rfl
  · exact get0 _ [b] 0 (by omega) (fun u => Rdr u b s true) w (fun W hW => byte_read b s true W (h.below hW) hs) hS hG
  · exact get1f _ [b] (fun u => Rdr u b s true) w (fun W hW => bool_read b s true W (h.below hW) hs) hS hG
  · exact get2 _ [b] 0 (fun u => Rdr u b s true) w (fun W hW => count_read b s true W (h.below hW) hs) hS hG
  · refine (get3 _ [b] (wrap64 ((0 : Nat) : Int)) (fun u => Rdr u b s true) w (fun W hW => (num_read b s true W (h.below hW) hs).mono fun e w' ⟨he, h⟩ => ⟨he, h⟩) hS hG).mono fun e w' ⟨he, h⟩ => ⟨by rw [he, hz]; rfl, h⟩
  · exact get4 _ [b] ⟨#[]⟩ (fun u => Rdr u b s true) w (fun W hW => text_read b s true W (h.below hW) hs s true 0 rfl rfl rfl) hS hG
set_option maxHeartbeats 2000000 in
set_option maxRecDepth 100000 in
theorem breaks_walk (s : ByteArray) (hs : s.size ≤ 9223372036854775807) (k : Nat) (hk : k < 256) (w : World) : Calls Try.prog 5 #[.string s, .int .u8 k] w fun e w' => e = .returned (.bool true) ∧ Below w.heap.size w w' := by
  obtain ⟨r, hr⟩ : ∃ r : Nat, k % 5 = r := ⟨_, rfl⟩
  have hr4 : r ≤ 4 := by omega
  have hri : (k : Int) % 5 = (r : Int) := by omega
  have hm := th_guard
  have heq := th_refl r 0 ⟨#[]⟩
  clear hr
  by_cases hbig : 100000 < s.size
  · have hbig' : (100000 : Int) < (s.size : Nat) := by omega
    go_enter Try.func5, Try.ntmps5
    go_wp2_with fail
    refine (awake_any w).mono ?_
    rintro e w1 ⟨rfl, hb1⟩
    go_wp2
    go_ret
    exact ⟨rfl, hb1⟩
  · have hbig' : ¬ (100000 : Int) < (s.size : Nat) := by omega
    go_enter Try.func5, Try.ntmps5
    go_wp2_with fail
    refine (awake_any w).mono ?_
    rintro e w1 ⟨rfl, hb1⟩
    obtain ⟨b, hb⟩ : ∃ b, Hid (w1.heap.size = b) := ⟨_, Lib.hid rfl⟩
    have hbl : Hid (w1.heap.size ≤ b) := Lib.hid (Nat.le_of_eq hb.out)
    go_wp2_with fail
    refine (newreader_any s w1).mono ?_
    rintro e w2 ⟨rfl, hw2⟩
    have hR := rdr_new w1 s
    have hb2 := below_alloc w1 (.cells #[.string s, .bool false] 128)
    rw [hw2] at hR hb2
    rw [hb.out] at hR ⊢
    have HB := Lib.hid (break_any b s false w2 hR)
    have HB2 := Lib.hid hb2
    clear hw2 hR hb2
    go_wp2_with fail
    refine HB.out.mono ?_
    rintro e w3 ⟨rfl, hR3⟩
    go_wp2_with fail
    refine (break_nil w3).mono ?_
    rintro e w4 ⟨rfl, rfl⟩
    have HG := Lib.hid (get_broken r hr4 b s hs w3 hR3.1)
    have HK := Lib.hid hR3.2
    clear hR3 HB
    go_wp2_with fail
    refine HG.out.mono ?_
    rintro e w5 ⟨rfl, hR5⟩
    have HR5 := Lib.hid hR5
    clear hR5 HG
    go_wp2_with fail
    refine (left_any b s true w5 HR5.out.1 0 rfl).mono ?_
    rintro e w6 ⟨rfl, rfl⟩
    go_wp2_with fail
    refine (end_any b s true w5 HR5.out.1 2 rfl).mono ?_
    rintro e w6 ⟨rfl, rfl⟩
    go_wp2_with fail
    refine (end_nil w5).mono ?_
    rintro e w6 ⟨rfl, rfl⟩
    go_wp2
    go_ret
    refine ⟨rfl, hb1.trans ((HB2.out.trans ((HK.out.trans HR5.out.2).below HB2.out.size ?_)).mono hb1.size)⟩
    simpa using hbl.out
theorem breaks_row (w : World) (s : ByteArray) (k : Int) (hs : s.size ≤ 140737488351232) (hk : (Lit.int .u8 k).wf = true) : Calls Try.prog 5 #[.string s, .int .u8 k] w fun e w' => e = .returned (.bool true) ∧ Below w.heap.size w w' := by
  have hw := u8_wf hk
  obtain ⟨m, rfl⟩ : ∃ m : Nat, k = (m : Int) := ⟨k.toNat, by omega⟩
  exact breaks_walk s (by omega) m (by omega) w
end Go.Proofs.Ytfpocddpnoighaa.Wr

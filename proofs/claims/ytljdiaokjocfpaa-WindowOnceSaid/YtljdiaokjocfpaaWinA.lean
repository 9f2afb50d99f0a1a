/- The walks of the window's methods. -/
import Derived.Test.YtljdiaokjocfpaaProg
import Derived.Test.YtljdiaokjocfpaaL
import Derived.Test.YtljdiaokjocfpaaA
import Derived.RegionTactic
import Derived.ChangeAlike
namespace Go.Proofs.Ytljdiaokjocfpaa.Win
open Go.RowKit Go.Proofs.Ytljdiaokjocfpaa.L Go.Proofs.Ytljdiaokjocfpaa.A
set_option linter.unusedVariables false
set_option linter.unusedSimpArgs false

/-- a window in memory. -/
def Win (w : World) (b : Nat) (g x : Nat) : Prop := w.heap[b]? = some (.cells #[.int .i64 g, .int .u64 x] 38 (0, 0))
theorem Win.c0 {w : World} {b g x : Nat} (h : Win w b g x) : w.cell? ⟨b, 0, none⟩ = some (.int .i64 g) := by rw [cell_of_row w b 0 _ _ _ h]; rfl
theorem Win.c1 {w : World} {b g x : Nat} (h : Win w b g x) : w.cell? ⟨b, 1, none⟩ = some (.int .u64 x) := by rw [cell_of_row w b 1 _ _ _ h]; rfl
theorem Win.lt {w : World} {b g x : Nat} (h : Win w b g x) : b < w.heap.size := (Array.getElem?_eq_some_iff.1 h).1
theorem Win.below {w w1 : World} {b g x : Nat} (h : Win w b g x) (hb : Below w.heap.size w w1) : Win w1 b g x := (hb.block b h.lt).trans h
def seenB (g x : Nat) (n : Int) : Bool := decide (n < 1) || decide (1099511627776 < n) || (!decide ((g : Int) < n) && (decide (64 ≤ (g : Int) - n) || x.testBit ((g : Int) - n).toNat))

def shl64 (x d : Nat) : Nat := (x * 2 ^ (min d 64)) % 2 ^ 64
theorem shl64_lt (x d : Nat) : shl64 x d < 2 ^ 64 := Nat.mod_lt _ (by decide)
theorem wrap_u64 (n : Int) : IntKind.u64.wrap n = n % 18446744073709551616 := by simp [IntKind.wrap, IntKind.bits, IntKind.signed]
theorem run_shl64 (x d : Nat) : Op.shift .shl .u64 (x : Int) .i64 (d : Int) = pure (.int .u64 ((shl64 x d : Nat) : Int)) := by
  unfold Op.shift shl64
  rw [if_neg (by omega)]
  simp only [Int.toNat_natCast, wrap_u64]
  show pure (Value.int .u64 (((x : Int) * 2 ^ min d 64) % 18446744073709551616)) = _
  have e : ((x : Int) * 2 ^ min d 64) % 18446744073709551616 = (((x * 2 ^ min d 64) % 2 ^ 64 : Nat) : Int) := by
    rw [Int.natCast_emod, Int.natCast_mul, Int.natCast_pow]
    rfl
  rw [e]
theorem run_shr64 (x d : Nat) (hd : d ≤ 64) : Op.shift .shr .u64 (x : Int) .i64 (d : Int) = pure (.int .u64 ((x / 2 ^ d : Nat) : Int)) := by
  unfold Op.shift
  rw [if_neg (by omega)]
  simp only [Int.toNat_natCast]
  have : min d IntKind.u64.bits = d := by show min d 64 = d; omega
  rw [this, Int.fdiv_eq_ediv_of_nonneg _ (Int.pow_nonneg (by decide)), Int.natCast_ediv, Int.natCast_pow]
  rfl
theorem bits_and64 (a b : Nat) (ha : a < 2 ^ 64) (hb : b < 2 ^ 64) : bits .and .u64 (a : Int) (b : Int) = ((a &&& b : Nat) : Int) := by
  have hx := Nat.and_lt_two_pow (n := 64) a hb
  have e : (BitVec.ofNat 64 a &&& BitVec.ofNat 64 b).toNat = a &&& b := by
    rw [BitVec.toNat_and, BitVec.toNat_ofNat, BitVec.toNat_ofNat, Nat.mod_eq_of_lt ha, Nat.mod_eq_of_lt hb]
  show IntKind.u64.wrap (((BitVec.ofNat 64 a &&& BitVec.ofNat 64 b).toNat : Nat) : Int) = _
  rw [e, wrap_u64]
  omega
theorem bits_or64 (a b : Nat) (ha : a < 2 ^ 64) (hb : b < 2 ^ 64) : bits .or .u64 (a : Int) (b : Int) = ((a ||| b : Nat) : Int) := by
  have hx := Nat.or_lt_two_pow (n := 64) ha hb
  have e : (BitVec.ofNat 64 a ||| BitVec.ofNat 64 b).toNat = a ||| b := by
    rw [BitVec.toNat_or, BitVec.toNat_ofNat, BitVec.toNat_ofNat, Nat.mod_eq_of_lt ha, Nat.mod_eq_of_lt hb]
  show IntKind.u64.wrap (((BitVec.ofNat 64 a ||| BitVec.ofNat 64 b).toNat : Nat) : Int) = _
  rw [e, wrap_u64]
  omega
theorem and64_1 (y : Nat) (hy : y < 2 ^ 64) : bits .and .u64 (y : Int) 1 = ((y % 2 : Nat) : Int) := by
  rw [show (1 : Int) = ((1 : Nat) : Int) from rfl, bits_and64 y 1 hy (by decide), Nat.and_one_is_mod]
theorem wrap_i64 (d : Nat) (h : d ≤ 1099511627776) : IntKind.i64.wrap (d : Int) = d := IntWalk.i64_in _ (by omega)
theorem below_drewN {B : Nat} {w W : World} (h : Below B w W) (n : Nat) : Below B w (W.drewN n) := ⟨h.os, h.tape, h.output, h.size, h.block⟩
theorem ret_bit (x k : Nat) (hx : x < 2 ^ 64) : Ending.returned (.bool (bits .and .u64 ((x : Int) / 2 ^ k) 1 == 1)) = .returned (.bool (decide (x / 2 ^ k % 2 = 1))) := by
  have e : ((x : Int) / 2 ^ k) = ((x / 2 ^ k : Nat) : Int) := by rw [Int.natCast_ediv, Int.natCast_pow]; rfl
  rw [e, and64_1 _ (Nat.lt_of_le_of_lt (Nat.div_le_self _ _) hx)]
  congr 2
  by_cases h : x / 2 ^ k % 2 = 1
  · simp [h]
  · have : ¬ (((x / 2 ^ k % 2 : Nat) : Int) = 1) := by omega
    rw [beq_eq_false_iff_ne.2 this]
    simp [h]
theorem seen_nil (n : Int) (w : World) : Calls Try.prog 25 #[.pointer none, .int .i64 n] w fun e w' => e = .returned (.bool true) ∧ w = w' := by
  go_enter Try.func25, Try.ntmps25
  go_wp2
  go_ret
  exact ⟨rfl, rfl⟩
set_option maxHeartbeats 1000000 in
theorem seen_any (b g x : Nat) (n : Int) (w : World) (h : Win w b g x) (hg : g ≤ 1099511627776) (hx : x < 2 ^ 64) (hn : -9223372036854775808 ≤ n ∧ n ≤ 9223372036854775807) :
    Calls Try.prog 25 #[.pointer (some ⟨b, 0, none⟩), .int .i64 n] w fun e w' => e = .returned (.bool (seenB g x n)) ∧ Below w.heap.size w w' := by
  have h0 := h.c0
  have h1 := h.c1
  by_cases a1 : n < 1
  · have hs : Hid (seenB g x n = true) := Lib.hid (by simp [seenB, a1])
    rw [hs.out]
    clear hs
    go_enter Try.func25, Try.ntmps25
    go_wp2
    go_ret
    exact ⟨rfl, Below.refl _ _⟩
  · by_cases a2 : 1099511627776 < n
    · have hs : Hid (seenB g x n = true) := Lib.hid (by simp [seenB, a2])
      rw [hs.out]
      clear hs
      go_enter Try.func25, Try.ntmps25
      go_wp2
      go_ret
      exact ⟨rfl, Below.refl _ _⟩
    · by_cases a3 : (g : Int) < n
      · have hs : Hid (seenB g x n = false) := Lib.hid (by simp [seenB, a1, a2, a3])
        rw [hs.out]
        clear hs
        go_enter Try.func25, Try.ntmps25
        go_wp2
        go_ret
        exact ⟨rfl, Below.refl _ _⟩
      · by_cases a4 : 64 ≤ (g : Int) - n
        · have hs : Hid (seenB g x n = true) := Lib.hid (by simp [seenB, a1, a2, a3, a4])
          rw [hs.out]
          clear hs
          go_enter Try.func25, Try.ntmps25
          go_wp2
          go_ret
          exact ⟨rfl, Below.refl _ _⟩
        · obtain ⟨k, hk⟩ : ∃ k : Nat, Hid ((g : Int) - n = (k : Int)) := ⟨((g : Int) - n).toNat, Lib.hid (by omega)⟩
          have hkl : k < 64 := by have := hk.out; omega
          have hs : Hid (seenB g x n = decide (x / 2 ^ k % 2 = 1)) := Lib.hid (by
            have e : ((g : Int) - n).toNat = k := by have := hk.out; omega
            simp [seenB, a1, a2, a3, a4, e, Nat.testBit_eq_decide_div_mod_eq])
          rw [hs.out]
          obtain ⟨m, rfl⟩ : ∃ m : Nat, n = m := ⟨n.toNat, by omega⟩
          have hk1 := hk.out
          have hw := wrap_i64 k (by omega)
          have hsh := run_shr64 x k (by omega)
          have HX := Lib.hid hx
          clear hs a3 a4 hx
          go_enter Try.func25, Try.ntmps25
          go_wp2
          go_quiet (fail)
          go_wp2
          go_ret
          exact ⟨ret_bit x k HX.out, below_drewN (Below.refl _ _) _⟩
def seeX (g x n : Nat) : Nat := (if g < n then shl64 x (n - g) else x) ||| shl64 1 (max g n - n)
theorem seeX_lt (g x n : Nat) (hx : x < 2 ^ 64) : seeX g x n < 2 ^ 64 := by
  unfold seeX
  refine Nat.or_lt_two_pow ?_ (shl64_lt _ _)
  split
  · exact shl64_lt _ _
  · exact hx
theorem Win.set0 {w : World} {b g x : Nat} (h : Win w b g x) (n : Nat) : Win (w.setCell ⟨b, 0, none⟩ (.int .i64 n)) b n x := by
  unfold Win
  rw [heap_setCell_at w b 0 _ _ _ _ h]; rfl
theorem Win.set1 {w : World} {b g x : Nat} (h : Win w b g x) {v : Int} (n : Nat) (hv : v = n) : Win (w.setCell ⟨b, 1, none⟩ (.int .u64 v)) b g n := by
  subst hv
  unfold Win
  rw [heap_setCell_at w b 1 _ _ _ _ h]; rfl
theorem or_shl0 (x1 : Nat) (h : x1 < 2 ^ 64) : bits .or .u64 (x1 : Int) 1 = ((x1 ||| shl64 1 0 : Nat) : Int) := by
  rw [← bits_or64 x1 (shl64 1 0) h (shl64_lt _ _)]; rfl
theorem or_shl (x d : Nat) (h : x < 2 ^ 64) : bits .or .u64 (x : Int) (IntKind.u64.wrap (2 ^ min d 64)) = ((x ||| shl64 1 d : Nat) : Int) := by
  rw [← bits_or64 x (shl64 1 d) h (shl64_lt _ _)]
  congr 1
  rw [wrap_u64]
  unfold shl64
  rw [Nat.one_mul, Int.natCast_emod, Int.natCast_pow]
  rfl
set_option maxHeartbeats 1000000 in
theorem see_any (b g x : Nat) (n : Nat) (w : World) (h : Win w b g x) (hg : g ≤ 1099511627776) (hx : x < 2 ^ 64) (hn : 1 ≤ n ∧ n ≤ 1099511627776) :
    Calls Try.prog 42 #[.pointer (some ⟨b, 0, none⟩), .int .i64 n] w fun e w' => e = .returned (.tuple #[]) ∧ Win w' b (max g n) (seeX g x n) ∧ Keep [b] w w' := by
  have h0 := h.c0
  have h1 := h.c1
  have f0 : w.frozen? ⟨b, 0, none⟩ = false := frozen_of_row w _ _ _ _ h
  have f1 : w.frozen? ⟨b, 1, none⟩ = false := frozen_of_row w _ _ _ _ h
  obtain ⟨hn1, hn2⟩ := hn
  by_cases a : g < n
  · obtain ⟨d, hd⟩ : ∃ d : Nat, Hid ((n : Int) - g = (d : Int)) := ⟨n - g, Lib.hid (by omega)⟩
    have hdl : d ≤ 1099511627776 := by have := hd.out; omega
    have hd1 := hd.out
    have hw := wrap_i64 d hdl
    have hsh := run_shl64 x d
    obtain ⟨x1, hx1⟩ : ∃ y : Nat, Hid (shl64 x d = y) := ⟨_, Lib.hid rfl⟩
    rw [hx1.out] at hsh
    have a' : (g : Int) < n := by omega
    have hdz : ((n : Int) - n) = ((0 : Nat) : Int) := by omega
    have hw0 := wrap_i64 0 (by omega)
    have hsh0 := run_shl64 1 0
    obtain ⟨x2, hx2⟩ : ∃ y : Nat, Hid (x1 ||| shl64 1 0 = y) := ⟨_, Lib.hid rfl⟩
    have hor := bits_or64 x1 (shl64 1 0) (by rw [← hx1.out]; exact shl64_lt _ _) (shl64_lt _ _)
    rw [hx2.out] at hor
    go_enter Try.func42, Try.ntmps42
    go_wp2
    go_region
    all_goals (go_wp2; go_region)
    all_goals (go_wp2; go_end0)
    refine ⟨rfl, ?_, ?_⟩
    · have e : seeX g x n = x1 ||| shl64 1 0 := by
        unfold seeX
        have e1 : max g n - n = 0 := by omega
        have e2 : n - g = d := by have := hd.out; omega
        rw [if_pos a, e1, e2, hx1.out]
      have e3 : max g n = n := by omega
      rw [e, e3]
      exact ((h.set1 x1 rfl).set0 n).set1 _ (or_shl0 x1 (by rw [← hx1.out]; exact shl64_lt _ _))
    · exact ((((Keep.refl _ _).setCell (.inl (by simp)) _).setCell (.inl (by simp)) _).setCell (.inl (by simp)) _).drew.drew
  · obtain ⟨d, hd⟩ : ∃ d : Nat, Hid ((g : Int) - n = (d : Int)) := ⟨g - n, Lib.hid (by omega)⟩
    have hdl : d ≤ 1099511627776 := by have := hd.out; omega
    have hd1 := hd.out
    have hw := wrap_i64 d hdl
    have hsh := run_shl64 1 d
    have a' : (n : Int) ≤ g := by omega
    obtain ⟨x1, hx1⟩ : ∃ y : Nat, Hid (shl64 1 d = y) := ⟨_, Lib.hid rfl⟩
    rw [hx1.out] at hsh
    obtain ⟨x2, hx2⟩ : ∃ y : Nat, Hid (x ||| x1 = y) := ⟨_, Lib.hid rfl⟩
    have hor := bits_or64 x x1 hx (by rw [← hx1.out]; exact shl64_lt _ _)
    rw [hx2.out] at hor
    go_enter Try.func42, Try.ntmps42
    go_wp2
    go_region
    all_goals (go_wp2; go_end0)
    refine ⟨rfl, ?_, ?_⟩
    · have e : seeX g x n = x ||| shl64 1 d := by
        unfold seeX
        have e1 : max g n - n = d := by have := hd.out; omega
        rw [if_neg (by omega), e1]
      have e3 : max g n = g := by omega
      rw [e, e3]
      exact h.set1 _ (or_shl x d hx)
    · exact ((Keep.refl _ _).setCell (.inl (by simp)) _).drew

/-! ### numbers, one by one -/
structure St where
  g : Nat
  x : Nat
  fresh : Nat
def St.see (s : St) (n : Int) : St := if seenB s.g s.x n then s else ⟨max s.g n.toNat, seeX s.g s.x n.toNat, s.fresh + 1⟩
def St.all (s : St) (l : List Int) : St := l.foldl St.see s
def St.ok (s : St) : Prop := s.g ≤ 1099511627776 ∧ s.x < 2 ^ 64
theorem seen_false {g x : Nat} {n : Int} (h : seenB g x n = false) : 1 ≤ n ∧ n ≤ 1099511627776 := by
  simp [seenB] at h
  omega
theorem St.ok_see {s : St} (h : s.ok) (n : Int) : (s.see n).ok := by
  unfold St.see
  split
  · exact h
  · rename_i hs
    have := seen_false (by simpa using hs)
    exact ⟨by have := h.1; simp only; omega, seeX_lt _ _ _ h.2⟩
theorem St.ok_all (l : List Int) : ∀ {s : St}, s.ok → (s.all l).ok := by
  induction l with
  | nil => intro s h; exact h
  | cons n l ih => intro s h; exact ih (St.ok_see h n)
theorem St.all_succ (s : St) (l : List Int) (k : Nat) (h : k < l.length) : s.all (l.take (k + 1)) = (s.all (l.take k)).see l[k] := by
  unfold St.all
  rw [List.take_succ_eq_append_getElem h, List.foldl_append]
  rfl
theorem St.fresh_le (l : List Int) : ∀ (s : St), (s.all l).fresh ≤ s.fresh + l.length := by
  induction l with
  | nil => intro s; exact Nat.le_refl _
  | cons n l ih =>
    intro s
    have := ih (s.see n)
    have h2 : (s.see n).fresh ≤ s.fresh + 1 := by unfold St.see; split <;> simp
    show ((s.see n).all l).fresh ≤ _
    simp only [List.length_cons]
    omega
set_option maxHeartbeats 1000000 in
theorem See_any (b g x : Nat) (A : Option Addr) (n c : Nat) (l : List Int) (w : World) (h : Win w b g x) (hok : (St.mk g x 0).ok) (hr : Rd w A n (l.map (Value.int .i64))) (hb : 0 < n → ∀ o, A = some o → o.block ≠ b)
    (hl : ∀ z ∈ l, -9223372036854775808 ≤ z ∧ z ≤ 9223372036854775807) :
    Calls Try.prog 20 #[.pointer (some ⟨b, 0, none⟩), .slice A n c] w fun e w' => e = .returned (.int .i64 (((St.mk g x 0).all l).fresh : Nat)) ∧ Win w' b ((St.mk g x 0).all l).g ((St.mk g x 0).all l).x ∧ Keep [b] w w' := by
  have HL := Lib.hid hr.len
  have hn := hr.2.1
  have Hl := Lib.hid hl
  have Hok := Lib.hid hok
  clear hl hok
  go_enter Try.func20, Try.ntmps20
  go_wp2
  go_loopw [5, 7, 10] (fun f m i wr => ∃ k : Nat, k ≤ n ∧ i = .int .i64 k ∧ f = .int .i64 (((St.mk g x 0).all (l.take k)).fresh : Nat) ∧ Win wr b ((St.mk g x 0).all (l.take k)).g ((St.mk g x 0).all (l.take k)).x ∧ Keep [b] w wr) (fun _ _ i _ => n - (intOf i).toNat)
  case atStart => exact ⟨0, by omega, rfl, rfl, h, Keep.refl _ _⟩
  case round =>
    obtain ⟨k, hk, rfl, rfl, hW, hkeep⟩ := hrel
    obtain ⟨s, hs⟩ : ∃ s : St, Hid (s = (St.mk g x 0).all (l.take k)) := ⟨_, Lib.hid rfl⟩
    have hsok : s.ok := by rw [hs.out]; exact St.ok_all _ Hok.out
    have hfr : s.fresh ≤ k := by
      have := St.fresh_le (l.take k) (St.mk g x 0)
      rw [← hs.out] at this
      simp at this
      omega
    rw [← hs.out] at hW ⊢
    by_cases hlt : k < n
    · obtain ⟨ab, ao, hA, hc⟩ := hr.2.2 (by omega)
      have hkl : k < l.length := by have := HL.out; simp at this; omega
      have hne : ab ≠ b := hb (by omega) _ hA
      subst hA
      obtain ⟨z, hz⟩ : ∃ z : Int, Hid (z = l[k]) := ⟨_, Lib.hid rfl⟩
      have hcell0 : w.cell? ⟨ab, ao + k, none⟩ = some (.int .i64 z) := by
        rw [hc k hlt, hz.out]; simp [hkl]
      have hcell : wr.cell? ⟨ab, ao + k, none⟩ = some (.int .i64 z) := (hkeep.cell (World.block_lt_of_cell? w _ hcell0) (by simpa using hne)).trans hcell0
      have hzb := Hl.out z (by rw [hz.out]; exact List.getElem_mem _)
      have hstep : Hid ((St.mk g x 0).all (l.take (k + 1)) = s.see z) := Lib.hid (by rw [St.all_succ _ l k hkl, ← hs.out, hz.out])
      have Hzb := Lib.hid hzb
      have Hsok := Lib.hid hsok
      clear hc hcell0 hzb hsok
      cases hseen : seenB s.g s.x z with
      | true =>
        have hst2 : Hid (s.see z = s) := Lib.hid (by simp [St.see, hseen])
        have HS := Lib.hid hseen
        clear hseen
        go_wp2_with (go_at_call 25; refine (seen_any b s.g s.x z _ hW Hsok.out.1 Hsok.out.2 Hzb.out).mono ?_; rintro e w1 ⟨rfl, hb1⟩; rw [HS.out])
        go_roundw
        case rel => exact ⟨k + 1, by omega, by go_num, by rw [hstep.out, hst2.out], by rw [hstep.out, hst2.out]; exact hW.below hb1, hkeep.trans (.of_below hb1)⟩
        case measure => simp [intOf]; omega
      | false =>
        obtain ⟨hz1, hz2⟩ := seen_false hseen
        obtain ⟨m, rfl⟩ : ∃ m : Nat, z = m := ⟨z.toNat, by omega⟩
        have hst2 : Hid (s.see m = ⟨max s.g m, seeX s.g s.x m, s.fresh + 1⟩) := Lib.hid (by simp [St.see, hseen])
        have HS := Lib.hid hseen
        clear hseen
        go_wp2_with (first | (go_at_call 25; refine (seen_any b s.g s.x m _ hW Hsok.out.1 Hsok.out.2 Hzb.out).mono ?_; rintro e w1 ⟨rfl, hb1⟩; rw [HS.out]) | (go_at_call 42; refine (see_any b s.g s.x m _ (hW.below hb1) Hsok.out.1 Hsok.out.2 (by omega)).mono ?_; rintro e w2 ⟨rfl, hW2, hk2⟩))
        go_roundw
        case rel => exact ⟨k + 1, by omega, by go_num, by rw [hstep.out, hst2.out]; go_num, by rw [hstep.out, hst2.out]; exact hW2, (hkeep.trans (.of_below hb1)).trans hk2⟩
        case measure => simp [intOf]; omega
    · have hke : k = n := by omega
      subst hke
      have hfin : Hid (s = (St.mk g x 0).all l) := Lib.hid (by rw [hs.out, List.take_of_length_le (by have := HL.out; simp at this; omega)])
      clear hlt hk
      go_wp2
      go_ret
      exact ⟨retv (show Value.int .i64 ((s.fresh : Nat) : Int) = _ by rw [hfin.out]), by rw [← hfin.out]; exact hW, hkeep⟩
end Go.Proofs.Ytljdiaokjocfpaa.Win

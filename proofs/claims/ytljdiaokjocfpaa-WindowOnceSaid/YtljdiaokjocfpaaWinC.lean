/- awake, and one number after the other. -/
import Derived.Test.YtljdiaokjocfpaaWinB
namespace Go.Proofs.Ytljdiaokjocfpaa.Win
open Go.RowKit Go.Proofs.Ytljdiaokjocfpaa.L Go.Proofs.Ytljdiaokjocfpaa.A Go.Proofs.Ytljdiaokjocfpaa.R Go.Proofs.Ytljdiaokjocfpaa.S
set_option linter.unusedVariables false
set_option linter.unusedSimpArgs false

theorem Win.keep {w w1 : World} {b g x : Nat} (h : Win w b g x) {S : List Nat} (hk : Keep S w w1) (hb : b ∉ S) : Win w1 b g x := keep_block hk h hb
theorem Win.alloc {w : World} {b g x : Nat} (h : Win w b g x) (o : Obj) : Win (w.alloc o) b g x := (heap_alloc_old _ _ h.lt).trans h
theorem win_new (w : World) : Win (w.alloc (.cells #[.int .i64 0, .int .u64 0] 38)) w.heap.size 0 0 := heap_alloc_new _ _
/-- some numbers in a row of the call's own. -/
theorem See_row (b g x g1 x1 f : Nat) (l : List Int) (n : Nat) (w : World) (h : Win w b g x) (hok : (St.mk g x 0).ok) (hn : l.length = n) (hm : n ≤ 9223372036854775807) (hl : ∀ z ∈ l, -9223372036854775808 ≤ z ∧ z ≤ 9223372036854775807) (hres : (St.mk g x 0).all l = ⟨g1, x1, f⟩) :
    Calls Try.prog 20 #[.pointer (some ⟨b, 0, none⟩), .slice (some ⟨w.heap.size, 0, none⟩) n n] (w.alloc (.cells (l.map (Value.int .i64)).toArray 3)) fun e w' => e = .returned (.int .i64 f) ∧ Win w' b g1 x1 ∧ Keep [b] w w' := by
  have hr := rd_alloc w (l.map (Value.int .i64)) 3 n (by simp [hn]) hm
  refine (See_any b g x _ n n l _ (h.alloc _) hok hr (fun _ o ho => by cases ho; have := h.lt; simp; omega) hl).mono ?_
  rintro e w' ⟨he, hW, hk⟩
  rw [hres] at he hW
  exact ⟨he, hW, ((Keep.refl _ _).alloc _).trans hk⟩
/-- two windows. -/
structure Two (w W : World) (s g x g' x' : Nat) : Prop where
  low : Below s w W
  fst : Win W s g x
  snd : Win W (s + 1) g' x'
theorem two_fst {w W : World} {s g x g' x' : Nat} (h : Two w W s g x g' x') (B : Nat) (hB : W.heap.size = B) (g1 x1 f : Nat) (l : List Int) (n : Nat) (hok : (St.mk g x 0).ok) (hn : l.length = n) (hm : n ≤ 9223372036854775807) (hl : ∀ z ∈ l, -9223372036854775808 ≤ z ∧ z ≤ 9223372036854775807) (hres : (St.mk g x 0).all l = ⟨g1, x1, f⟩) :
    Calls Try.prog 20 #[.pointer (some ⟨s, 0, none⟩), .slice (some ⟨B, 0, none⟩) n n] (W.alloc (.cells (l.map (Value.int .i64)).toArray 3)) fun e w' => e = .returned (.int .i64 f) ∧ Two w w' s g1 x1 g' x' := by
  subst hB
  refine (See_row s g x g1 x1 f l n W h.fst hok hn hm hl hres).mono ?_
  rintro e w' ⟨he, hW, hk⟩
  exact ⟨he, h.low.trans (hk.below (Nat.le_of_lt h.fst.lt) (by simp)), hW, h.snd.keep hk (by simp)⟩
theorem two_snd {w W : World} {s g x g' x' : Nat} (h : Two w W s g x g' x') (B : Nat) (hB : W.heap.size = B) (g1 x1 f : Nat) (l : List Int) (n : Nat) (hok : (St.mk g' x' 0).ok) (hn : l.length = n) (hm : n ≤ 9223372036854775807) (hl : ∀ z ∈ l, -9223372036854775808 ≤ z ∧ z ≤ 9223372036854775807) (hres : (St.mk g' x' 0).all l = ⟨g1, x1, f⟩) :
    Calls Try.prog 20 #[.pointer (some ⟨s + 1, 0, none⟩), .slice (some ⟨B, 0, none⟩) n n] (W.alloc (.cells (l.map (Value.int .i64)).toArray 3)) fun e w' => e = .returned (.int .i64 f) ∧ Two w w' s g x g1 x1 := by
  subst hB
  refine (See_row (s + 1) g' x' g1 x1 f l n W h.snd hok hn hm hl hres).mono ?_
  rintro e w' ⟨he, hW, hk⟩
  exact ⟨he, h.low.trans (hk.below (Nat.le_of_lt h.fst.lt) (by simp)), h.fst.keep hk (by simp), hW⟩
theorem two_new (w : World) : Two w ((w.alloc (.cells #[.int .i64 0, .int .u64 0] 38)).alloc (.cells #[.int .i64 0, .int .u64 0] 38)) w.heap.size 0 0 0 0 :=
  ⟨((Below.refl _ _).alloc (Nat.le_refl _) _).alloc (by simp) _, (win_new w).alloc _, by have := win_new (w.alloc (.cells #[.int .i64 0, .int .u64 0] 38)); simpa using this⟩
theorem ok0 : (St.mk 0 0 0).ok := ⟨by decide, by decide⟩
theorem okA : (St.mk 100 1 0).ok := ⟨by decide, by decide⟩
theorem rng1 (z : Int) (h : -9223372036854775808 ≤ z ∧ z ≤ 9223372036854775807) : ∀ y ∈ [z], -9223372036854775808 ≤ y ∧ y ≤ 9223372036854775807 := by simpa using h
set_option maxHeartbeats 1000000 in
theorem awake_any (w : World) : Calls Try.prog 19 #[] w fun e w' => e = .returned (.bool true) ∧ Below w.heap.size w w' := by
  have h0 := two_new w
  go_enter Try.func19, Try.ntmps19
  go_wp2_with fail
  refine (two_fst h0 _ (by simp) 5 5 2 [5, 3, 5] 3 ok0 rfl (by decide) (by decide) (by kernel_rfl)).mono ?_
  rintro e w1 ⟨rfl, h1⟩
  go_wp2_with fail
  refine (two_snd h1 _ rfl 100 1 1 [100] 1 ok0 rfl (by decide) (by decide) (by kernel_rfl)).mono ?_
  rintro e w2 ⟨rfl, h2⟩
  go_wp2_with fail
  refine (two_snd h2 _ rfl 100 1 0 [36] 1 okA rfl (by decide) (by decide) (by kernel_rfl)).mono ?_
  rintro e w3 ⟨rfl, h3⟩
  go_wp2_with fail
  refine (two_snd h3 _ rfl 100 9223372036854775809 1 [37] 1 okA rfl (by decide) (by decide) (by kernel_rfl)).mono ?_
  rintro e w4 ⟨rfl, h4⟩
  go_wp2_with fail
  go_ret
  exact ⟨rfl, h4.low⟩
end Go.Proofs.Ytljdiaokjocfpaa.Win

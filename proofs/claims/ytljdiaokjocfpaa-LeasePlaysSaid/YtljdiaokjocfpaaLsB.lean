/- a table's memory; what its closures tell. -/
import Derived.Test.YtljdiaokjocfpaaLsA
import Derived.Test.YtljdiaokjocfpaaA
import Derived.RegionTactic
import Derived.Test.YtljdiaokjocfpaaT
import Derived.ChangeAlike
import Derived.Test.YtljdiaokjocfpaaLsE
namespace Go.Proofs.Ytljdiaokjocfpaa.Ls
open Go.RowKit Go.Proofs.Ytljdiaokjocfpaa.L Go.Proofs.Ytljdiaokjocfpaa.A Go.Proofs.Ytljdiaokjocfpaa.T
set_option linter.unusedVariables false
set_option linter.unusedSimpArgs false

/-- a cell's hold. -/
structure Slt where
  a : Int
  b : Int
  c : Int
  u : Int
  on : Bool
def Slt.enc (s : Slt) : List Value := [.int .i64 s.a, .int .i64 s.b, .int .i64 s.c, .int .i64 s.u, .bool s.on]
def encAll (ss : List Slt) : List Value := ss.flatMap Slt.enc
theorem encAll_len (ss : List Slt) : (encAll ss).length = ss.length * 5 := by
  induction ss with
  | nil => rfl
  | cons s ss ih => simp [encAll, Slt.enc] at ih ⊢; omega
theorem encAll_at : ∀ (ss : List Slt) (i j : Nat) (hi : i < ss.length), j < 5 → (encAll ss)[i * 5 + j]? = (ss[i].enc)[j]?
  | s :: ss, 0, j, _, hj => by
    simp only [encAll, List.flatMap_cons, List.getElem_cons_zero, Nat.zero_mul, Nat.zero_add]
    rw [List.getElem?_append_left (by simp [Slt.enc]; omega)]
  | s :: ss, i + 1, j, hi, hj => by
    have ih := encAll_at ss i j (by simpa using hi) hj
    simp only [encAll, List.flatMap_cons, List.getElem_cons_succ] at ih ⊢
    rw [List.getElem?_append_right (by simp [Slt.enc]; omega)]
    rw [← ih]
    congr 1
    simp [Slt.enc]; omega
structure Tab (w : World) (b g : Nat) (ss : List Slt) : Prop where
  blk : w.heap[b]? = some (.cells #[.slice (some ⟨g, 0, none⟩) ss.length ss.length] 89 (0, 0))
  row : w.heap[g]? = some (.cells (encAll ss).toArray 91 (0, 0))
  len : 1 ≤ ss.length ∧ ss.length ≤ 16
theorem Tab.ne {w : World} {b g : Nat} {ss : List Slt} (h : Tab w b g ss) : b ≠ g := by
  rintro rfl
  have h1 := h.blk
  rw [h.row] at h1
  injection h1 with h1
  injection h1 with _ h1 _
  exact absurd h1 (by decide)
theorem Tab.c0 {w : World} {b g : Nat} {ss : List Slt} (h : Tab w b g ss) : w.cell? ⟨b, 0, none⟩ = some (.slice (some ⟨g, 0, none⟩) ss.length ss.length) := by rw [cell_of_row w b 0 _ _ _ h.blk]; rfl
theorem Tab.cell {w : World} {b g : Nat} {ss : List Slt} (h : Tab w b g ss) {i j : Nat} (hi : i < ss.length) (hj : j < 5) : w.cell? ⟨g, i * 5 + j, none⟩ = (ss[i].enc)[j]? := by
  rw [cell_of_row w g (i * 5 + j) _ _ _ h.row, ← encAll_at ss i j hi hj]; simp
theorem Tab.free {w : World} {b g : Nat} {ss : List Slt} (h : Tab w b g ss) (i : Nat) : w.frozen? ⟨g, i, none⟩ = false := frozen_of_row w _ _ _ _ h.row
theorem Tab.lt {w : World} {b g : Nat} {ss : List Slt} (h : Tab w b g ss) : b < w.heap.size ∧ g < w.heap.size := ⟨(Array.getElem?_eq_some_iff.1 h.blk).1, (Array.getElem?_eq_some_iff.1 h.row).1⟩
theorem Tab.keep {w w1 : World} {b g : Nat} {ss : List Slt} (h : Tab w b g ss) {S : List Nat} (hk : Keep S w w1) (hb : b ∉ S) (hg : g ∉ S) : Tab w1 b g ss :=
  ⟨(hk.block b h.lt.1 hb).trans h.blk, (hk.block g h.lt.2 hg).trans h.row, h.len⟩
theorem Tab.below {w w1 : World} {b g : Nat} {ss : List Slt} (h : Tab w b g ss) (hk : Below w.heap.size w w1) : Tab w1 b g ss := h.keep (S := []) (.of_below hk) (by simp) (by simp)
def outB (n : Nat) (c : Int) : Bool := decide (c < 0) || decide ((n : Int) ≤ c)
theorem none1 (x b g n : Nat) (c : Int) (w : World) (hx : w.cell? ⟨x, 0, none⟩ = some (.pointer (some ⟨b, 0, none⟩))) (hb : w.cell? ⟨b, 0, none⟩ = some (.slice (some ⟨g, 0, none⟩) n n)) :
    Calls Try.prog 50 #[.int .i64 c, .pointer (some ⟨x, 0, none⟩)] w fun e w' => e = .returned (.bool (outB n c)) ∧ w = w' := by
  obtain ⟨r, hr⟩ : ∃ r, Hid (outB n c = r) := ⟨_, Lib.hid rfl⟩
  rw [hr.out]
  by_cases h1 : c < 0
  · have hd : decide (c < 0) = true := by simpa using h1
    go_enter Try.func50, Try.ntmps50
    go_wp2
    go_ret
    exact ⟨retb (by rw [← hr.out]; simp [outB, h1]), rfl⟩
  · have hd : decide (c < 0) = false := by simpa using h1
    by_cases h2 : (n : Int) ≤ c
    · go_enter Try.func50, Try.ntmps50
      go_wp2
      go_ret
      exact ⟨retb (by rw [← hr.out]; simp [outB, h2]), rfl⟩
    · go_enter Try.func50, Try.ntmps50
      go_wp2
      go_ret
      exact ⟨retbf (by rw [← hr.out]; simp [outB, h1, h2]), rfl⟩
set_option maxHeartbeats 1000000 in
theorem may1 (x y b g n k : Nat) (s : Slt) (ta tb tc : Int) (w : World) (hk : k < n) (hn : n ≤ 16) (hx : w.cell? ⟨x, 0, none⟩ = some (.pointer (some ⟨b, 0, none⟩))) (hb : w.cell? ⟨b, 0, none⟩ = some (.slice (some ⟨g, 0, none⟩) n n))
    (hy0 : w.cell? ⟨y, 0, none⟩ = some (.int .i64 ta)) (hy1 : w.cell? ⟨y, 1, none⟩ = some (.int .i64 tb)) (hy2 : w.cell? ⟨y, 2, none⟩ = some (.int .i64 tc))
    (c0 : w.cell? ⟨g, k * 5, none⟩ = some (.int .i64 s.a)) (c1 : w.cell? ⟨g, k * 5 + 1, none⟩ = some (.int .i64 s.b)) (c2 : w.cell? ⟨g, k * 5 + 2, none⟩ = some (.int .i64 s.c)) (c4 : w.cell? ⟨g, k * 5 + 4, none⟩ = some (.bool s.on)) :
    Calls Try.prog 48 #[.int .i64 k, .pointer (some ⟨x, 0, none⟩), .pointer (some ⟨y, 0, none⟩)] w fun e w' => e = .returned (.bool (s.on && !tidB s.a s.b s.c ta tb tc)) ∧ Below w.heap.size w w' := by
  obtain ⟨sa, sb, sc, su, on⟩ := s
  dsimp only at c0 c1 c2 c4
  have hq := fun w => tid_eq sa sb sc ta tb tc w
  have hm := tid_guard
  obtain ⟨r, hr⟩ : ∃ r, Hid (tidB sa sb sc ta tb tc = r) := ⟨_, Lib.hid rfl⟩
  simp only [hr.out] at hq ⊢
  cases on
  · go_enter Try.func48, Try.ntmps48
    go_wp2
    go_quiet (fail)
    go_wp2
    go_ret
    exact ⟨rfl, below_drewN _ _⟩
  · go_enter Try.func48, Try.ntmps48
    go_wp2
    go_quiet (fail)
    go_wp2
    go_ret
    exact ⟨by simp, below_drewN _ _⟩
end Go.Proofs.Ytljdiaokjocfpaa.Ls

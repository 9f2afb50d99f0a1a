/- net: way, whole. -/
import Derived.Test.YtbdcgfdchkbcnaaNeA
import Derived.Test.YtbdcgfdchkbcnaaG
import Derived.Test.YtbdcgfdchkbcnaaR
namespace Go.Proofs.Ytbdcgfdchkbcnaa.Ne
open Go.RowKit Go.Proofs.Ytbdcgfdchkbcnaa.L Go.Proofs.Ytbdcgfdchkbcnaa.R Go.Proofs.Ytbdcgfdchkbcnaa.S Go.Proofs.Ytbdcgfdchkbcnaa.T
set_option linter.unusedVariables false
set_option linter.unusedSimpArgs false

def okW (nodes : Nat) (x y : Int) : Bool := decide (x ≠ y) && decide (1 ≤ x) && decide (1 ≤ y) && decide (x ≤ (nodes : Int)) && decide (y ≤ (nodes : Int))
def mn (x y : Int) : Int := if x < y then x else y
def mx (x y : Int) : Int := if x < y then y else x
set_option maxHeartbeats 8000000 in
set_option maxRecDepth 100000 in
theorem way_any (b nodes : Nat) (x y : Int) (w : World) (hc : w.cell? ⟨b, 0, none⟩ = some (.int .i64 nodes)) :
    Calls Try.prog 83 #[.pointer (some ⟨b, 0, none⟩), .int .i64 x, .int .i64 y] w fun e w' => e = .returned (.tuple #[.agg #[.int .i64 (mn x y), .int .i64 (mx x y)], .bool (okW nodes x y)]) ∧ Below w.heap.size w w' := by
  have hc1 : ∀ o, (w.alloc o).cell? ⟨b, 0, none⟩ = some (.int .i64 nodes) := fun o => cell_below (below_alloc w o) hc
  have hg0 := Lib.hid (heap_alloc_new w (.cells #[.int .i64 0, .int .i64 0] 125))
  have hb0 := Lib.hid (below_alloc w (.cells #[.int .i64 0, .int .i64 0] 125))
  clear hc
  by_cases h1 : x = y
  · subst h1
    have e1 : (x == x) = true := by simp
    have m1 : decide (x < x) = false := by simp
    have m2 : decide (x ≤ x) = true := by simp
    rw [show okW nodes x x = false by simp [okW], show mn x x = x by unfold mn; split <;> omega, show mx x x = x by unfold mx; split <;> omega]
    try clear c3
    try clear c2
    try clear c1
    try clear c0
    go_enter Try.func83, Try.ntmps83
    go_wp2_with (refine wpList_store_blk rfl 125 (.tmp 6) (.tmp 42) rfl w.heap.size 0 rfl 125 _ (.agg #[.int .i64 x, .int .i64 x]) rfl hg0.out (by kernel_rfl) (by simp [Value.cells]) (by simp [Value.cells, Value.oneCell']) _ rfl ?_; intro w5 hg5 hu5)
    have r0 : w5.cell? ⟨w.heap.size, 0, none⟩ = some (.int .i64 x) := by rw [cell_of_row w5 _ 0 _ _ _ hg5]; rfl
    have r1 : w5.cell? ⟨w.heap.size, 1, none⟩ = some (.int .i64 x) := by rw [cell_of_row w5 _ 1 _ _ _ hg5]; rfl
    refine bodyPost_ret (v := .tuple #[.agg #[.int .i64 x, .int .i64 x], .bool false]) (by simp [results, Try.results83, go_sem, r0, r1]) rfl ⟨rfl, ?_⟩
    exact hb0.out.trans (hu5.below (Nat.le_refl _))
  · by_cases hlt : x < y
    · by_cases c0 : 1 ≤ x
      · by_cases c1 : 1 ≤ y
        · by_cases c2 : x ≤ (nodes : Int)
          · by_cases c3 : y ≤ (nodes : Int)
            · have e1 : (x == y) = false := by simp [h1]
              have e2 : decide (x = y) = false := by simp [h1]
              have m1 : decide (x < y) = true := by simp; omega
              have m2 : decide (y < x) = false := by simp; omega
              have m3 : decide (x ≤ y) = true := by simp; omega
              have m4 : decide (y ≤ x) = false := by simp; omega
              have g1 : decide (1 ≤ x) = true := by simp; omega
              have g2 : decide (1 ≤ y) = true := by simp; omega
              have g3 : decide (x ≤ (nodes : Int)) = true := by simp; omega
              have g4 : decide (y ≤ (nodes : Int)) = true := by simp; omega
              rw [show okW nodes x y = true by simp [okW]; omega, show mn x y = x by unfold mn; split <;> omega, show mx x y = y by unfold mx; split <;> omega]
              try clear c3
              try clear c2
              try clear c1
              try clear c0
              go_enter Try.func83, Try.ntmps83
              go_wp2_with (refine wpList_store_blk rfl 125 (.tmp 6) (.tmp 42) rfl w.heap.size 0 rfl 125 _ (.agg #[.int .i64 x, .int .i64 y]) rfl hg0.out (by kernel_rfl) (by simp [Value.cells]) (by simp [Value.cells, Value.oneCell']) _ rfl ?_; intro w5 hg5 hu5)
              have r0 : w5.cell? ⟨w.heap.size, 0, none⟩ = some (.int .i64 x) := by rw [cell_of_row w5 _ 0 _ _ _ hg5]; rfl
              have r1 : w5.cell? ⟨w.heap.size, 1, none⟩ = some (.int .i64 y) := by rw [cell_of_row w5 _ 1 _ _ _ hg5]; rfl
              refine bodyPost_ret (v := .tuple #[.agg #[.int .i64 x, .int .i64 y], .bool true]) (by simp [results, Try.results83, go_sem, r0, r1, h1]) rfl ⟨rfl, ?_⟩
              exact hb0.out.trans (hu5.below (Nat.le_refl _))
            · have e1 : (x == y) = false := by simp [h1]
              have e2 : decide (x = y) = false := by simp [h1]
              have m1 : decide (x < y) = true := by simp; omega
              have m2 : decide (y < x) = false := by simp; omega
              have m3 : decide (x ≤ y) = true := by simp; omega
              have m4 : decide (y ≤ x) = false := by simp; omega
              have g1 : decide (1 ≤ x) = true := by simp; omega
              have g2 : decide (1 ≤ y) = true := by simp; omega
              have g3 : decide (x ≤ (nodes : Int)) = true := by simp; omega
              have g4 : decide (y ≤ (nodes : Int)) = false := by simp; omega
              rw [show okW nodes x y = false by simp [okW]; omega, show mn x y = x by unfold mn; split <;> omega, show mx x y = y by unfold mx; split <;> omega]
              try clear c3
              try clear c2
              try clear c1
              try clear c0
              go_enter Try.func83, Try.ntmps83
              go_wp2_with (refine wpList_store_blk rfl 125 (.tmp 6) (.tmp 42) rfl w.heap.size 0 rfl 125 _ (.agg #[.int .i64 x, .int .i64 y]) rfl hg0.out (by kernel_rfl) (by simp [Value.cells]) (by simp [Value.cells, Value.oneCell']) _ rfl ?_; intro w5 hg5 hu5)
              have r0 : w5.cell? ⟨w.heap.size, 0, none⟩ = some (.int .i64 x) := by rw [cell_of_row w5 _ 0 _ _ _ hg5]; rfl
              have r1 : w5.cell? ⟨w.heap.size, 1, none⟩ = some (.int .i64 y) := by rw [cell_of_row w5 _ 1 _ _ _ hg5]; rfl
              refine bodyPost_ret (v := .tuple #[.agg #[.int .i64 x, .int .i64 y], .bool false]) (by simp [results, Try.results83, go_sem, r0, r1]) rfl ⟨rfl, ?_⟩
              exact hb0.out.trans (hu5.below (Nat.le_refl _))
          · have e1 : (x == y) = false := by simp [h1]
            have e2 : decide (x = y) = false := by simp [h1]
            have m1 : decide (x < y) = true := by simp; omega
            have m2 : decide (y < x) = false := by simp; omega
            have m3 : decide (x ≤ y) = true := by simp; omega
            have m4 : decide (y ≤ x) = false := by simp; omega
            have g1 : decide (1 ≤ x) = true := by simp; omega
            have g2 : decide (1 ≤ y) = true := by simp; omega
            have g3 : decide (x ≤ (nodes : Int)) = false := by simp; omega
            rw [show okW nodes x y = false by simp [okW]; omega, show mn x y = x by unfold mn; split <;> omega, show mx x y = y by unfold mx; split <;> omega]
            try clear c3
            try clear c2
            try clear c1
            try clear c0
            go_enter Try.func83, Try.ntmps83
            go_wp2_with (refine wpList_store_blk rfl 125 (.tmp 6) (.tmp 42) rfl w.heap.size 0 rfl 125 _ (.agg #[.int .i64 x, .int .i64 y]) rfl hg0.out (by kernel_rfl) (by simp [Value.cells]) (by simp [Value.cells, Value.oneCell']) _ rfl ?_; intro w5 hg5 hu5)
            have r0 : w5.cell? ⟨w.heap.size, 0, none⟩ = some (.int .i64 x) := by rw [cell_of_row w5 _ 0 _ _ _ hg5]; rfl
            have r1 : w5.cell? ⟨w.heap.size, 1, none⟩ = some (.int .i64 y) := by rw [cell_of_row w5 _ 1 _ _ _ hg5]; rfl
            refine bodyPost_ret (v := .tuple #[.agg #[.int .i64 x, .int .i64 y], .bool false]) (by simp [results, Try.results83, go_sem, r0, r1]) rfl ⟨rfl, ?_⟩
            exact hb0.out.trans (hu5.below (Nat.le_refl _))
        · exact absurd hlt (by omega)
      · have e1 : (x == y) = false := by simp [h1]
        have e2 : decide (x = y) = false := by simp [h1]
        have m1 : decide (x < y) = true := by simp; omega
        have m2 : decide (y < x) = false := by simp; omega
        have m3 : decide (x ≤ y) = true := by simp; omega
        have m4 : decide (y ≤ x) = false := by simp; omega
        have g1 : decide (1 ≤ x) = false := by simp; omega
        rw [show okW nodes x y = false by simp [okW]; omega, show mn x y = x by unfold mn; split <;> omega, show mx x y = y by unfold mx; split <;> omega]
        try clear c3
        try clear c2
        try clear c1
        try clear c0
        go_enter Try.func83, Try.ntmps83
        go_wp2_with (refine wpList_store_blk rfl 125 (.tmp 6) (.tmp 42) rfl w.heap.size 0 rfl 125 _ (.agg #[.int .i64 x, .int .i64 y]) rfl hg0.out (by kernel_rfl) (by simp [Value.cells]) (by simp [Value.cells, Value.oneCell']) _ rfl ?_; intro w5 hg5 hu5)
        have r0 : w5.cell? ⟨w.heap.size, 0, none⟩ = some (.int .i64 x) := by rw [cell_of_row w5 _ 0 _ _ _ hg5]; rfl
        have r1 : w5.cell? ⟨w.heap.size, 1, none⟩ = some (.int .i64 y) := by rw [cell_of_row w5 _ 1 _ _ _ hg5]; rfl
        refine bodyPost_ret (v := .tuple #[.agg #[.int .i64 x, .int .i64 y], .bool false]) (by simp [results, Try.results83, go_sem, r0, r1]) rfl ⟨rfl, ?_⟩
        exact hb0.out.trans (hu5.below (Nat.le_refl _))
    · by_cases c0 : 1 ≤ x
      · by_cases c1 : 1 ≤ y
        · by_cases c2 : x ≤ (nodes : Int)
          · by_cases c3 : y ≤ (nodes : Int)
            · have e1 : (x == y) = false := by simp [h1]
              have e2 : decide (x = y) = false := by simp [h1]
              have m1 : decide (x < y) = false := by simp; omega
              have m2 : decide (y < x) = true := by simp; omega
              have hgt : y < x := by omega
              have m3 : decide (x ≤ y) = false := by simp; omega
              have m4 : decide (y ≤ x) = true := by simp; omega
              have g1 : decide (1 ≤ x) = true := by simp; omega
              have g2 : decide (1 ≤ y) = true := by simp; omega
              have g3 : decide (x ≤ (nodes : Int)) = true := by simp; omega
              have g4 : decide (y ≤ (nodes : Int)) = true := by simp; omega
              rw [show okW nodes x y = true by simp [okW]; omega, show mn x y = y by unfold mn; split <;> omega, show mx x y = x by unfold mx; split <;> omega]
              try clear c3
              try clear c2
              try clear c1
              try clear c0
              go_enter Try.func83, Try.ntmps83
              go_wp2_with (refine wpList_store_blk rfl 125 (.tmp 6) (.tmp 42) rfl w.heap.size 0 rfl 125 _ (.agg #[.int .i64 y, .int .i64 x]) rfl hg0.out (by kernel_rfl) (by simp [Value.cells]) (by simp [Value.cells, Value.oneCell']) _ rfl ?_; intro w5 hg5 hu5)
              have r0 : w5.cell? ⟨w.heap.size, 0, none⟩ = some (.int .i64 y) := by rw [cell_of_row w5 _ 0 _ _ _ hg5]; rfl
              have r1 : w5.cell? ⟨w.heap.size, 1, none⟩ = some (.int .i64 x) := by rw [cell_of_row w5 _ 1 _ _ _ hg5]; rfl
              refine bodyPost_ret (v := .tuple #[.agg #[.int .i64 y, .int .i64 x], .bool true]) (by simp [results, Try.results83, go_sem, r0, r1, h1]) rfl ⟨rfl, ?_⟩
              exact hb0.out.trans (hu5.below (Nat.le_refl _))
            · exact absurd hlt (by omega)
          · have e1 : (x == y) = false := by simp [h1]
            have e2 : decide (x = y) = false := by simp [h1]
            have m1 : decide (x < y) = false := by simp; omega
            have m2 : decide (y < x) = true := by simp; omega
            have hgt : y < x := by omega
            have m3 : decide (x ≤ y) = false := by simp; omega
            have m4 : decide (y ≤ x) = true := by simp; omega
            have g1 : decide (1 ≤ x) = true := by simp; omega
            have g2 : decide (1 ≤ y) = true := by simp; omega
            have g3 : decide (x ≤ (nodes : Int)) = false := by simp; omega
            rw [show okW nodes x y = false by simp [okW]; omega, show mn x y = y by unfold mn; split <;> omega, show mx x y = x by unfold mx; split <;> omega]
            try clear c3
            try clear c2
            try clear c1
            try clear c0
            go_enter Try.func83, Try.ntmps83
            go_wp2_with (refine wpList_store_blk rfl 125 (.tmp 6) (.tmp 42) rfl w.heap.size 0 rfl 125 _ (.agg #[.int .i64 y, .int .i64 x]) rfl hg0.out (by kernel_rfl) (by simp [Value.cells]) (by simp [Value.cells, Value.oneCell']) _ rfl ?_; intro w5 hg5 hu5)
            have r0 : w5.cell? ⟨w.heap.size, 0, none⟩ = some (.int .i64 y) := by rw [cell_of_row w5 _ 0 _ _ _ hg5]; rfl
            have r1 : w5.cell? ⟨w.heap.size, 1, none⟩ = some (.int .i64 x) := by rw [cell_of_row w5 _ 1 _ _ _ hg5]; rfl
            refine bodyPost_ret (v := .tuple #[.agg #[.int .i64 y, .int .i64 x], .bool false]) (by simp [results, Try.results83, go_sem, r0, r1]) rfl ⟨rfl, ?_⟩
            exact hb0.out.trans (hu5.below (Nat.le_refl _))
        · have e1 : (x == y) = false := by simp [h1]
          have e2 : decide (x = y) = false := by simp [h1]
          have m1 : decide (x < y) = false := by simp; omega
          have m2 : decide (y < x) = true := by simp; omega
          have hgt : y < x := by omega
          have m3 : decide (x ≤ y) = false := by simp; omega
          have m4 : decide (y ≤ x) = true := by simp; omega
          have g1 : decide (1 ≤ x) = true := by simp; omega
          have g2 : decide (1 ≤ y) = false := by simp; omega
          rw [show okW nodes x y = false by simp [okW]; omega, show mn x y = y by unfold mn; split <;> omega, show mx x y = x by unfold mx; split <;> omega]
          try clear c3
          try clear c2
          try clear c1
          try clear c0
          go_enter Try.func83, Try.ntmps83
          go_wp2_with (refine wpList_store_blk rfl 125 (.tmp 6) (.tmp 42) rfl w.heap.size 0 rfl 125 _ (.agg #[.int .i64 y, .int .i64 x]) rfl hg0.out (by kernel_rfl) (by simp [Value.cells]) (by simp [Value.cells, Value.oneCell']) _ rfl ?_; intro w5 hg5 hu5)
          have r0 : w5.cell? ⟨w.heap.size, 0, none⟩ = some (.int .i64 y) := by rw [cell_of_row w5 _ 0 _ _ _ hg5]; rfl
          have r1 : w5.cell? ⟨w.heap.size, 1, none⟩ = some (.int .i64 x) := by rw [cell_of_row w5 _ 1 _ _ _ hg5]; rfl
          refine bodyPost_ret (v := .tuple #[.agg #[.int .i64 y, .int .i64 x], .bool false]) (by simp [results, Try.results83, go_sem, r0, r1]) rfl ⟨rfl, ?_⟩
          exact hb0.out.trans (hu5.below (Nat.le_refl _))
      · have e1 : (x == y) = false := by simp [h1]
        have e2 : decide (x = y) = false := by simp [h1]
        have m1 : decide (x < y) = false := by simp; omega
        have m2 : decide (y < x) = true := by simp; omega
        have hgt : y < x := by omega
        have m3 : decide (x ≤ y) = false := by simp; omega
        have m4 : decide (y ≤ x) = true := by simp; omega
        have g1 : decide (1 ≤ x) = false := by simp; omega
        rw [show okW nodes x y = false by simp [okW]; omega, show mn x y = y by unfold mn; split <;> omega, show mx x y = x by unfold mx; split <;> omega]
        try clear c3
        try clear c2
        try clear c1
        try clear c0
        go_enter Try.func83, Try.ntmps83
        go_wp2_with (refine wpList_store_blk rfl 125 (.tmp 6) (.tmp 42) rfl w.heap.size 0 rfl 125 _ (.agg #[.int .i64 y, .int .i64 x]) rfl hg0.out (by kernel_rfl) (by simp [Value.cells]) (by simp [Value.cells, Value.oneCell']) _ rfl ?_; intro w5 hg5 hu5)
        have r0 : w5.cell? ⟨w.heap.size, 0, none⟩ = some (.int .i64 y) := by rw [cell_of_row w5 _ 0 _ _ _ hg5]; rfl
        have r1 : w5.cell? ⟨w.heap.size, 1, none⟩ = some (.int .i64 x) := by rw [cell_of_row w5 _ 1 _ _ _ hg5]; rfl
        refine bodyPost_ret (v := .tuple #[.agg #[.int .i64 y, .int .i64 x], .bool false]) (by simp [results, Try.results83, go_sem, r0, r1]) rfl ⟨rfl, ?_⟩
        exact hb0.out.trans (hu5.below (Nat.le_refl _))
theorem mn_wf {x y : Int} (hx : (Lit.int .i64 x).wf = true) (hy : (Lit.int .i64 y).wf = true) : (Lit.int .i64 (mn x y)).wf = true ∧ (Lit.int .i64 (mx x y)).wf = true := by
  unfold mn mx
  split <;> exact ⟨by assumption, by assumption⟩
/-- is the way whole? -/
def wholeB (nodes : Nat) (f : Int → Int → Bool) (x y : Int) : Bool := okW nodes x y && !f (mn x y) (mx x y)
theorem whole_any (b nodes mb n : Nat) (f : Int → Int → Bool) (x y : Int) (w : World) (hc : w.cell? ⟨b, 0, none⟩ = some (.int .i64 nodes)) (hc1 : w.cell? ⟨b, 1, none⟩ = some (.map (some mb))) (hm : WayMap w mb n f) (hx : (Lit.int .i64 x).wf = true) (hy : (Lit.int .i64 y).wf = true) :
    Calls Try.prog 63 #[.pointer (some ⟨b, 0, none⟩), .int .i64 x, .int .i64 y] w fun e w' => e = .returned (.bool (wholeB nodes f x y)) ∧ Below w.heap.size w w' := by
  have HW := Lib.hid (way_any b nodes x y w hc)
  obtain ⟨q, hq⟩ : ∃ q, Hid (wholeB nodes f x y = q) := ⟨_, Lib.hid rfl⟩
  rw [hq.out]
  obtain ⟨hwx, hwy⟩ := mn_wf hx hy
  obtain ⟨ok, hok⟩ : ∃ ok, okW nodes x y = ok := ⟨_, rfl⟩
  obtain ⟨lo, hlo⟩ : ∃ lo, mn x y = lo := ⟨_, rfl⟩
  obtain ⟨hh, hhi⟩ : ∃ hh, mx x y = hh := ⟨_, rfl⟩
  have hqq : Hid ((ok && !f lo hh) = q) := Lib.hid (by rw [← hok, ← hlo, ← hhi]; exact hq.out)
  rw [hok, hlo, hhi] at HW
  rw [hlo] at hwx
  rw [hhi] at hwy
  have HM := Lib.hid hm
  have HC1 := Lib.hid hc1
  clear hc hc1 hm hok hlo hhi
  go_enter Try.func63, Try.ntmps63
  go_wp2_with fail
  refine HW.out.mono ?_
  rintro e w1 ⟨rfl, hb1⟩
  obtain ⟨W, hW⟩ : ∃ W, Hid (w1.alloc (.cells #[.int .i64 lo, .int .i64 hh] 125) = W) := ⟨_, Lib.hid rfl⟩
  have hbW : Below w1.heap.size w1 W := by rw [← hW.out]; exact below_alloc _ _
  have g2 : W.heap[w1.heap.size]? = some (.cells #[.int .i64 lo, .int .i64 hh] 125 (0, 0)) := by rw [← hW.out]; exact heap_alloc_new _ _
  have k0 : W.cell? ⟨w1.heap.size, 0, none⟩ = some (.int .i64 lo) := by rw [cell_of_row W _ 0 _ _ _ g2]; rfl
  have k1 : W.cell? ⟨w1.heap.size, 1, none⟩ = some (.int .i64 hh) := by rw [cell_of_row W _ 1 _ _ _ g2]; rfl
  have HB := Lib.hid (below2 hb1 hbW)
  have c1 := cell_below HB.out HC1.out
  have HC1W := Lib.hid c1
  have HK0 := Lib.hid k0
  have HK1 := Lib.hid k1
  obtain ⟨ff, hff⟩ : ∃ ff, f lo hh = ff := ⟨_, rfl⟩
  have HLK : Hid (∀ W', Below W.heap.size W W' → (Instr.lookup MT (.map (some mb)) (.agg #[.int .i64 lo, .int .i64 hh]) false).run Try.prog W' = .ok (.bool ff) W') := Lib.hid fun W' hb => by
    rw [← hff]
    exact way_look (HM.out.keep (.of_below (S := []) (below2 HB.out hb)) (by simp)) lo hh hwx hwy
  rw [hff] at hqq
  clear hb1 hbW g2 hff c1 k0 k1
  cases ok
  · have er : Hid (q = false) := Lib.hid (by rw [← hqq.out]; rfl)
    go_wp2_with (rw [hW.out])
    go_quiet (fail)
    go_wp2
    go_ret
    exact ⟨retbf er.out, below2 HB.out (below_drewN _ _)⟩
  · replace hqq : Hid ((!ff) = q) := Lib.hid (by rw [← hqq.out]; rfl)
    go_wp2_with (rw [hW.out])
    have hS0 : Below W.heap.size W W.drew := below_drewN 1 W
    refine wp_region_one (fun W' => Below W.heap.size W W') (fun u v => Below u.heap.size u v) (fun a i => match i with
        | 0 => (fun v _ => v = .bool true)
        | 1 => (fun v _ => v = .bool true)
        | 2 => (fun v _ => v = .pointer (some ⟨b, 0, none⟩))
        | 3 => (fun v _ => v = .pointer (some ⟨b, 0, none⟩))
        | 4 => (fun v _ => v = .pointer (some ⟨b, 1, none⟩))
        | 5 => (fun v _ => v = .map (some mb))
        | 6 => (fun v _ => v = .agg #[.int .i64 lo, .int .i64 hh])
        | 7 => (fun v _ => v = .bool ff)
        | 8 => (fun v _ => v = .bool (!ff))
        | 9 => (fun v _ => v = .bool (!ff))
        | 10 => (fun v _ => v = .bool (!ff))
        | _ => (fun _ _ => True)) #[0, 1, 3, 7, 15, 31, 3, 127, 255, 511, 1023] #[0, 1, 2, 6, 10, 18, 2, 98, 130, 258, 512] 2047 (by kernel_rfl) 11 rfl (fun m hm => by subst hm; kernel_rfl) (by kernel_rfl) (fun w => Below.refl _ w) (fun u v w h1 h2 => below2 h1 h2) ?_ (hS0) ?_ ?_
    · intro i hi
      rcases (by omega : i = 0 ∨ i = 1 ∨ i = 2 ∨ i = 3 ∨ i = 4 ∨ i = 5 ∨ i = 6 ∨ i = 7 ∨ i = 8 ∨ i = 9 ∨ i = 10) with rfl | rfl | rfl | rfl | rfl | rfl | rfl | rfl | rfl | rfl | rfl
      · exact fun v w w' h hr => by exact h
      · exact fun v w w' h hr => by exact h
      · exact fun v w w' h hr => by exact h
      · exact fun v w w' h hr => by exact h
      · exact fun v w w' h hr => by exact h
      · exact fun v w w' h hr => by exact h
      · exact fun v w w' h hr => by exact h
      · exact fun v w w' h hr => by exact h
      · exact fun v w w' h hr => by exact h
      · exact fun v w w' h hr => by exact h
      · exact fun v w w' h hr => by exact h
    · intro i hi
      rcases (by omega : i = 0 ∨ i = 1 ∨ i = 2 ∨ i = 3 ∨ i = 4 ∨ i = 5 ∨ i = 6 ∨ i = 7 ∨ i = 8 ∨ i = 9 ∨ i = 10) with rfl | rfl | rfl | rfl | rfl | rfl | rfl | rfl | rfl | rfl | rfl
      · -- 0: Op.move (Operand.tmp 8)
        intro l hl vs W hS hR hp
        obtain rfl : l = [] := hl.symm.trans (by kernel_rfl)
        clear hp hl
        refine opgoal (_) (some 16) rfl rfl fun K hK => ?_
        refine Runs.mk ?_
        simp only [putAll]
        go_simp
        refine hK _ _ ?_ hS ((fun w => Below.refl _ w) W) _ rfl rfl
        first | rfl | go_simp | simp
      · -- 1: Op.move (Operand.tmp 16)
        intro l hl vs W hS hR hp
        obtain rfl : l = [(0, 16)] := hl.symm.trans (by kernel_rfl)
        have p0 : vs 0 = _ := hp 0 (by decide) (by decide)
        clear hp hl
        refine opgoal (_) (some 17) rfl rfl fun K hK => ?_
        refine Runs.mk ?_
        simp only [putAll]
        go_simp
        refine hK _ _ ?_ hS ((fun w => Below.refl _ w) W) _ rfl rfl
        first | rfl | go_simp | simp
      · -- 2: Op.move (Operand.tmp 0)  [(1, 'true')]
        intro l hl vs W hS hR hp
        obtain rfl : l = [(0, 16), (1, 17)] := hl.symm.trans (by kernel_rfl)
        have p1 : vs 1 = _ := hp 1 (by decide) (by decide)
        clear hp hl
        refine opgoal (_) (some 18) rfl rfl fun K hK => ?_
        refine Runs.mk ?_
        simp only [putAll]
        go_simp
        refine hK _ _ ?_ hS ((fun w => Below.refl _ w) W) _ rfl rfl
        first | rfl | go_simp | simp
      · -- 3: Op.nilCheck (Operand.tmp 18)  [(1, 'true')]
        intro l hl vs W hS hR hp
        obtain rfl : l = [(0, 16), (1, 17), (2, 18)] := hl.symm.trans (by kernel_rfl)
        have p1 : vs 1 = _ := hp 1 (by decide) (by decide)
        have p2 : vs 2 = _ := hp 2 (by decide) (by decide)
        clear hp hl
        refine opgoal (_) (some 19) rfl rfl fun K hK => ?_
        refine Runs.mk ?_
        simp only [putAll]
        go_simp
        refine hK _ _ ?_ hS ((fun w => Below.refl _ w) W) _ rfl rfl
        first | rfl | go_simp | simp
      · -- 4: Op.fieldAddr 104 (Operand.tmp 19) 1  [(1, 'true')]
        intro l hl vs W hS hR hp
        obtain rfl : l = [(0, 16), (1, 17), (2, 18), (3, 19)] := hl.symm.trans (by kernel_rfl)
        have p1 : vs 1 = _ := hp 1 (by decide) (by decide)
        have p3 : vs 3 = _ := hp 3 (by decide) (by decide)
        clear hp hl
        refine opgoal (_) (some 20) rfl rfl fun K hK => ?_
        refine Runs.mk ?_
        simp only [putAll]
        go_simp
        refine hK _ _ ?_ hS ((fun w => Below.refl _ w) W) _ rfl rfl
        first | rfl | go_simp | simp
      · -- 5: Op.load 102 (Operand.tmp 20)  [(1, 'true')]
        intro l hl vs W hS hR hp
        obtain rfl : l = [(0, 16), (1, 17), (2, 18), (3, 19), (4, 20)] := hl.symm.trans (by kernel_rfl)
        have p1 : vs 1 = _ := hp 1 (by decide) (by decide)
        have p4 : vs 4 = _ := hp 4 (by decide) (by decide)
        clear hp hl
        refine opgoal (_) (some 21) rfl rfl fun K hK => ?_
        have c1' := cell_below hS HC1W.out
        refine Runs.mk ?_
        simp only [putAll]
        go_simp
        refine hK _ _ ?_ hS ((fun w => Below.refl _ w) W) _ rfl rfl
        first | rfl | go_simp | simp
      · -- 6: Op.load 125 (Operand.tmp 7)  [(1, 'true')]
        intro l hl vs W hS hR hp
        obtain rfl : l = [(0, 16), (1, 17)] := hl.symm.trans (by kernel_rfl)
        have p1 : vs 1 = _ := hp 1 (by decide) (by decide)
        clear hp hl
        refine opgoal (_) (some 22) rfl rfl fun K hK => ?_
        have k0' := cell_below hS HK0.out
        have k1' := cell_below hS HK1.out
        refine Runs.mk ?_
        simp only [putAll]
        go_simp
        refine hK _ _ ?_ hS ((fun w => Below.refl _ w) W) _ rfl rfl
        first | rfl | go_simp | simp
      · -- 7: Op.lookup 102 (Operand.tmp 21) (Operand.tmp 22) false  [(1, 'true')]
        intro l hl vs W hS hR hp
        obtain rfl : l = [(0, 16), (1, 17), (2, 18), (3, 19), (4, 20), (5, 21), (6, 22)] := hl.symm.trans (by kernel_rfl)
        have p1 : vs 1 = _ := hp 1 (by decide) (by decide)
        have p5 : vs 5 = _ := hp 5 (by decide) (by decide)
        have p6 : vs 6 = _ := hp 6 (by decide) (by decide)
        clear hp hl
        refine opgoal (_) (some 23) rfl rfl fun K hK => ?_
        have hlk := HLK.out W hS
        refine Runs.mk ?_
        simp only [putAll]
        go_simp
        refine hK _ _ ?_ hS ((fun w => Below.refl _ w) W) _ rfl rfl
        first | rfl | go_simp | simp
      · -- 8: Op.unOp UnOp.not 4 (Operand.tmp 23)  [(1, 'true')]
        intro l hl vs W hS hR hp
        obtain rfl : l = [(0, 16), (1, 17), (2, 18), (3, 19), (4, 20), (5, 21), (6, 22), (7, 23)] := hl.symm.trans (by kernel_rfl)
        have p1 : vs 1 = _ := hp 1 (by decide) (by decide)
        have p7 : vs 7 = _ := hp 7 (by decide) (by decide)
        clear hp hl
        refine opgoal (_) (some 24) rfl rfl fun K hK => ?_
        refine Runs.mk ?_
        simp only [putAll]
        go_simp
        refine hK _ _ ?_ hS ((fun w => Below.refl _ w) W) _ rfl rfl
        first | rfl | go_simp | simp
      · -- 9: Op.pick (Operand.tmp 17) (Operand.tmp 24) (Operand.const (Value.bool false))
        intro l hl vs W hS hR hp
        obtain rfl : l = [(0, 16), (1, 17), (2, 18), (3, 19), (4, 20), (5, 21), (6, 22), (7, 23), (8, 24)] := hl.symm.trans (by kernel_rfl)
        have p1 : vs 1 = _ := hp 1 (by decide) (by decide)
        have p8 : vs 8 = _ := hp 8 (by decide) (by decide)
        clear hp hl
        refine opgoal (_) (some 25) rfl rfl fun K hK => ?_
        refine Runs.mk ?_
        simp only [putAll]
        go_simp
        refine hK _ _ ?_ hS ((fun w => Below.refl _ w) W) _ rfl rfl
        first | rfl | go_simp | simp
      · -- 10: Op.assign (Operand.tmp 25)
        intro l hl vs W hS hR hp
        obtain rfl : l = [(0, 16), (1, 17), (2, 18), (3, 19), (4, 20), (5, 21), (6, 22), (7, 23), (8, 24), (9, 25)] := hl.symm.trans (by kernel_rfl)
        have p9 : vs 9 = _ := hp 9 (by decide) (by decide)
        clear hp hl
        refine opgoal (_) (some 6) rfl rfl fun K hK => ?_
        refine Runs.mk ?_
        simp only [putAll]
        go_simp
        refine hK _ _ ?_ hS ((fun w => Below.refl _ w) W) _ rfl rfl
        first | rfl | go_simp | simp
    · intro l hl vs W hS hR hp
      obtain rfl : l = [(0, 16), (1, 17), (2, 18), (3, 19), (4, 20), (5, 21), (6, 22), (7, 23), (8, 24), (9, 25), (10, 6)] := hl.symm.trans (by kernel_rfl)
      have p0 : vs 0 = _ := hp 0 (by decide) (by decide)
      have p1 : vs 1 = _ := hp 1 (by decide) (by decide)
      have p2 : vs 2 = _ := hp 2 (by decide) (by decide)
      have p3 : vs 3 = _ := hp 3 (by decide) (by decide)
      have p4 : vs 4 = _ := hp 4 (by decide) (by decide)
      have p5 : vs 5 = _ := hp 5 (by decide) (by decide)
      have p6 : vs 6 = _ := hp 6 (by decide) (by decide)
      have p7 : vs 7 = _ := hp 7 (by decide) (by decide)
      have p8 : vs 8 = _ := hp 8 (by decide) (by decide)
      have p9 : vs 9 = _ := hp 9 (by decide) (by decide)
      have p10 : vs 10 = _ := hp 10 (by decide) (by decide)
      clear hp hl
      simp only [putAll_mk, setAll, List.setIfInBounds_toArray, List.set_cons_succ, List.set_cons_zero, p0, p1, p2, p3, p4, p5, p6, p7, p8, p9, p10]
      have HS := Lib.hid hS
      clear hS hR hS0
      go_wp2
      go_ret
      exact ⟨retv (congrArg Value.bool hqq.out), below2 HB.out HS.out⟩
/-- a net's memory. -/
structure Nt (W : World) (b mb nodes n : Nat) (f : Int → Int → Bool) (v : Value) (L : List Value) (k : Nat) : Prop where
  blk : W.heap[b]? = some (.cells #[.int .i64 nodes, .map (some mb), v] 106 (0, 0))
  own : W.ownsRow (b + 1) 29 4 v k L
  map : WayMap W mb n f
  mb : mb < b
theorem Nt.cell {W : World} {b mb nodes n : Nat} {f : Int → Int → Bool} {v : Value} {L : List Value} {k : Nat} (h : Nt W b mb nodes n f v L k) : W.cell? ⟨b, 0, none⟩ = some (.int .i64 nodes) ∧ W.cell? ⟨b, 1, none⟩ = some (.map (some mb)) ∧ W.cell? ⟨b, 2, none⟩ = some v ∧ W.frozen? ⟨b, 2, none⟩ = false :=
  ⟨by rw [cell_of_row W b 0 _ _ _ h.blk]; rfl, by rw [cell_of_row W b 1 _ _ _ h.blk]; rfl, by rw [cell_of_row W b 2 _ _ _ h.blk]; rfl, frozen_of_row W b 2 _ _ h.blk⟩
theorem Nt.below {W W' : World} {b mb nodes n : Nat} {f : Int → Int → Bool} {v : Value} {L : List Value} {k : Nat} (h : Nt W b mb nodes n f v L k) (hb : Below W.heap.size W W') : Nt W' b mb nodes n f v L k :=
  ⟨keep_block (.of_below (S := []) hb) h.blk (by simp), Go.Proofs.Ytbdcgfdchkbcnaa.A.own_kept h.own hb, h.map.keep (.of_below (S := []) hb) (by simp), h.mb⟩
theorem net_new (nodes : Nat) (w : World) (h1 : 0 < nodes) (h2 : nodes ≤ 16) :
    Calls Try.prog 16 #[.int .i64 nodes] w fun e w' => e = .returned (.tuple #[.pointer (some ⟨w.heap.size + 1, 0, none⟩), .int .i64 0]) ∧ Nt w' (w.heap.size + 1) w.heap.size nodes 0 (fun _ _ => false) (.slice none 0 0) [] 0 ∧ Below w.heap.size w w' := by
  have hd1 : decide ((nodes : Int) < 1) = false := by simp; omega
  have hd2 : decide ((16 : Int) < (nodes : Int)) = false := by simp; omega
  have hmm := @run_makeMap Try.prog
  obtain ⟨W, hW⟩ : ∃ W, Hid ((w.alloc (.map #[] 0)).alloc (.cells #[.int .i64 nodes, .map (some w.heap.size), .slice none 0 0] 106) = W) := ⟨_, Lib.hid rfl⟩
  have hN : Hid (Nt W (w.heap.size + 1) w.heap.size nodes 0 (fun _ _ => false) (.slice none 0 0) [] 0 ∧ Below w.heap.size w W) := Lib.hid (by
    rw [← hW.out]
    have hb := below_alloc (w.alloc (.map #[] 0)) (.cells #[.int .i64 nodes, .map (some w.heap.size), .slice none 0 0] 106)
    have hg := heap_alloc_new (w.alloc (.map #[] 0)) (.cells #[.int .i64 nodes, .map (some w.heap.size), .slice none 0 0] 106)
    rw [World.size_alloc] at hg
    exact ⟨⟨hg, ⟨by simp, .inl ⟨rfl, rfl⟩⟩, (way_made w).keep (.of_below (S := []) hb) (by simp), by omega⟩, below2 (below_alloc _ _) hb⟩)
  go_enter Try.func16, Try.ntmps16
  go_wp2
  rw [hW.out]
  refine bodyPost_ret (v := .tuple #[.pointer (some ⟨w.heap.size + 1, 0, none⟩), .int .i64 0]) (by simp [results, Try.results16, go_sem]) rfl ⟨rfl, hN.out⟩
end Go.Proofs.Ytbdcgfdchkbcnaa.Ne

/- item: the law ItemRights. -/
import Derived.Test.YtfpocddpnoighaaItI
namespace Go.Proofs.Ytfpocddpnoighaa.It
open Go.RowKit Go.Proofs.Ytfpocddpnoighaa.L Go.Proofs.Ytfpocddpnoighaa.O Go.Proofs.Ytfpocddpnoighaa.A Go.Proofs.Ytfpocddpnoighaa.R Go.Proofs.Ytfpocddpnoighaa.S Go.Proofs.Ytfpocddpnoighaa.T Go.Proofs.Ytfpocddpnoighaa.E Go.Proofs.Ytfpocddpnoighaa.Wr Go.Proofs.Ytfpocddpnoighaa.F
set_option linter.unusedVariables false
set_option linter.unusedSimpArgs false

/-- the document's case. -/
structure Cs where
  i : Sl Im
  n : Sl Int
def encCs (c : Cs) : List Value := [.slice c.i.A c.i.n c.i.c, .slice c.n.A c.n.n c.n.c]
set_option maxRecDepth 100000 in
theorem opens_cs (W : World) : Opens Try.prog W 57 encCs (fun c => SlOk W 5 40 encIm goodIm c.i ∧ SlOk W 1 8 intE intG c.n) :=
  Opens.as (opens_struct (w := W) Try.underlying57 (by kernel_rfl) (opens_fc (off' := 1) rfl (by kernel_rfl) (opens_ims W) (opens_fc (off' := 2) rfl (by kernel_rfl) (opens_ints W) (opens_f0 2))))
    encCs _ (fun x => ⟨x.1, x.2.1⟩) (fun _ => rfl) (fun _ h => ⟨h.1, h.2.1⟩)
theorem cs_cells {W : World} {g : Nat} {x y : Value} {T : TypeId} (h : W.heap[g]? = some (.cells #[x, y] T (0, 0))) : W.cell? ⟨g, 0, none⟩ = some x ∧ W.cell? ⟨g, 1, none⟩ = some y :=
  ⟨by rw [cell_of_row _ _ _ _ _ _ h]; rfl, by rw [cell_of_row _ _ _ _ _ _ h]; rfl⟩
set_option maxHeartbeats 8000000 in
set_option maxRecDepth 100000 in
theorem rights_walk (w : World) (a1 a2 a3 b1 b2 b3 : Int) (iA : Option Addr) (ni ic : Nat) (l : List Im) (nA : Option Addr) (nn nc : Nat) (xs : List Int) (hi' : Ims w iA ni l) (hn' : Rd w nA nn (xs.map (Value.int .i64))) : Calls Try.prog 9 #[.agg #[.int .i64 a1, .int .i64 a2, .int .i64 a3], .agg #[.int .i64 b1, .int .i64 b2, .int .i64 b3], .agg #[.slice iA ni ic, .slice nA nn nc]] w fun e w' => e = .returned (.bool true) ∧ Below w.heap.size w w' := by
  obtain ⟨y1, hy1⟩ : ∃ p, Hid (ordV a1 a2 a3 b1 b2 b3 = p) := ⟨_, Lib.hid rfl⟩
  obtain ⟨y2, hy2⟩ : ∃ p, Hid (tidR ⟨a1, a2, a3⟩ = p) := ⟨_, Lib.hid rfl⟩
  obtain ⟨y3, hy3⟩ : ∃ p, Hid (itemsR l = p) := ⟨_, Lib.hid rfl⟩
  obtain ⟨y4, hy4⟩ : ∃ p, Hid (nodesR xs = p) := ⟨_, Lib.hid rfl⟩
  have hni9 := hi'.rd.2.1
  have hnn9 := hn'.2.1
  obtain ⟨g, hg⟩ : ∃ g, Hid (w.heap.size = g) := ⟨_, Lib.hid rfl⟩
  obtain ⟨W0, hW0⟩ : ∃ W0, Hid (((w.alloc (.cells #[.int .i64 a1, .int .i64 a2, .int .i64 a3] 51)).alloc (.cells #[.int .i64 b1, .int .i64 b2, .int .i64 b3] 51)).alloc (.cells #[.slice iA ni ic, .slice nA nn nc] 57) = W0) := ⟨_, Lib.hid rfl⟩
  have hb0 : Hid (Below w.heap.size w W0) := Lib.hid (by rw [← hW0.out]; exact below2 (below2 (below_alloc _ _) (below_alloc _ _)) (below_alloc _ _))
  have hA : Hid (∀ W, Below W0.heap.size W0 W → W.heap[g]? = some (.cells #[.int .i64 a1, .int .i64 a2, .int .i64 a3] 51 (0, 0)) ∧ W.heap[g + 1]? = some (.cells #[.int .i64 b1, .int .i64 b2, .int .i64 b3] 51 (0, 0)) ∧ W.heap[g + 1 + 1]? = some (.cells #[.slice iA ni ic, .slice nA nn nc] 57 (0, 0))) := Lib.hid (by
    intro W hb
    rw [← hg.out]
    have e1 : W0.heap[w.heap.size]? = some (.cells #[.int .i64 a1, .int .i64 a2, .int .i64 a3] 51 (0, 0)) := by rw [← hW0.out, heap_alloc_old _ _ (by simp; omega), heap_alloc_old _ _ (by simp)]; exact heap_alloc_new _ _
    have e2 : W0.heap[w.heap.size + 1]? = some (.cells #[.int .i64 b1, .int .i64 b2, .int .i64 b3] 51 (0, 0)) := by
      rw [← hW0.out, heap_alloc_old _ _ (by simp)]
      have := heap_alloc_new (w.alloc (.cells #[.int .i64 a1, .int .i64 a2, .int .i64 a3] 51)) (.cells #[.int .i64 b1, .int .i64 b2, .int .i64 b3] 51)
      rw [World.size_alloc] at this; exact this
    have e3 : W0.heap[w.heap.size + 1 + 1]? = some (.cells #[.slice iA ni ic, .slice nA nn nc] 57 (0, 0)) := by
      rw [← hW0.out]
      have := heap_alloc_new ((w.alloc (.cells #[.int .i64 a1, .int .i64 a2, .int .i64 a3] 51)).alloc (.cells #[.int .i64 b1, .int .i64 b2, .int .i64 b3] 51)) (.cells #[.slice iA ni ic, .slice nA nn nc] 57)
      rw [World.size_alloc, World.size_alloc] at this; exact this
    exact ⟨keep_block (.of_below (S := []) hb) e1 (by simp), keep_block (.of_below (S := []) hb) e2 (by simp), keep_block (.of_below (S := []) hb) e3 (by simp)⟩)
  have HI : Hid (Ims W0 iA ni l) := Lib.hid (hi'.below hb0.out)
  have HN : Hid (Rd W0 nA nn (xs.map (Value.int .i64))) := Lib.hid (hn'.below hb0.out)
  clear hi' hn'
  go_enter Try.func9, Try.ntmps9
  go_wp2_with fail
  rw [hW0.out, hg.out]
  refine (awake_any W0).mono ?_
  rintro e w1 ⟨rfl, hb1⟩
  have HB1 := Lib.hid hb1
  obtain ⟨z1, z2⟩ := cs_cells (hA.out w1 hb1).2.2
  clear hb1
  by_cases h1 : 60 < ni
  · go_wp2
    go_ret
    exact ⟨rfl, below2 hb0.out HB1.out⟩
  · by_cases h2 : 60 < nn
    · go_wp2
      go_ret
      exact ⟨rfl, below2 hb0.out HB1.out⟩
    · have hS0 : Below W0.heap.size W0 w1.drew := HB1.out.drew
      go_wp2_with fail
      clear z1 z2
      refine wp_region_one (fun W => Below W0.heap.size W0 W) (fun u v => Below u.heap.size u v) (fun a i => match i with
          | 0 => (fun v _ => v = .agg #[.int .i64 a1, .int .i64 a2, .int .i64 a3])
          | 1 => (fun v _ => v = .agg #[.int .i64 b1, .int .i64 b2, .int .i64 b3])
          | 2 => (fun v _ => v = .int .i64 y1)
          | 3 => (fun v _ => v = .agg #[.int .i64 a1, .int .i64 a2, .int .i64 a3])
          | 4 => (fun v _ => v = .agg #[.int .i64 b1, .int .i64 b2, .int .i64 b3])
          | 5 => (fun v _ => v = .int .i64 y1)
          | 6 => (fun v _ => v = .bool true)
          | 7 => (fun v _ => v = .bool true)
          | 8 => (fun v _ => v = .agg #[.int .i64 a1, .int .i64 a2, .int .i64 a3])
          | 9 => (fun v _ => v = .bool y2)
          | 10 => (fun v _ => v = .agg #[.int .i64 a1, .int .i64 a2, .int .i64 a3])
          | 11 => (fun v _ => v = .bool y2)
          | 12 => (fun v _ => v = .bool true)
          | 13 => (fun v _ => v = .bool true)
          | 14 => (fun v _ => v = .bool true)
          | 15 => (fun v _ => v = .pointer (some ⟨g + 1 + 1, 0, none⟩))
          | 16 => (fun v _ => v = .slice iA ni ic)
          | 17 => (fun v _ => v = .bool y3)
          | 18 => (fun v _ => v = .pointer (some ⟨g + 1 + 1, 0, none⟩))
          | 19 => (fun v _ => v = .slice iA ni ic)
          | 20 => (fun v _ => v = .bool y3)
          | 21 => (fun v _ => v = .bool true)
          | 22 => (fun v _ => v = .bool true)
          | 23 => (fun v _ => v = .bool true)
          | 24 => (fun v _ => v = .pointer (some ⟨g + 1 + 1, 1, none⟩))
          | 25 => (fun v _ => v = .slice nA nn nc)
          | 26 => (fun v _ => v = .bool y4)
          | 27 => (fun v _ => v = .pointer (some ⟨g + 1 + 1, 1, none⟩))
          | 28 => (fun v _ => v = .slice nA nn nc)
          | 29 => (fun v _ => v = .bool y4)
          | 30 => (fun v _ => v = .bool true)
          | 31 => (fun v _ => v = .bool true)
          | 32 => (fun v _ => v = .bool true)
          | _ => (fun _ _ => True)) #[0, 0, 3, 0, 0, 31, 63, 127, 255, 511, 255, 2047, 4095, 8191, 16383, 32767, 65535, 131071, 32767, 294911, 1048575, 2097151, 4194303, 8388607, 16777215, 33554431, 67108863, 16777215, 150994943, 536870911, 1073741823, 2147483647, 4294967295] #[0, 0, 3, 0, 0, 24, 36, 64, 128, 384, 128, 1152, 2688, 4224, 8192, 16384, 49152, 81920, 16384, 278528, 540672, 1196032, 2113536, 4194304, 8388608, 25165824, 41943040, 8388608, 142606336, 276824064, 612368384, 1082130432, 2147483648] 8589934591 (by kernel_rfl) 33 rfl (fun m hm => by subst hm; kernel_rfl) (by kernel_rfl) (fun w => Below.refl _ w) (fun u v w h1 h2 => below2 h1 h2) ?_ (hS0) ?_ ?_
      · intro i hi
        rcases (by omega : i = 0 ∨ i = 1 ∨ i = 2 ∨ i = 3 ∨ i = 4 ∨ i = 5 ∨ i = 6 ∨ i = 7 ∨ i = 8 ∨ i = 9 ∨ i = 10 ∨ i = 11 ∨ i = 12 ∨ i = 13 ∨ i = 14 ∨ i = 15 ∨ i = 16 ∨ i = 17 ∨ i = 18 ∨ i = 19 ∨ i = 20 ∨ i = 21 ∨ i = 22 ∨ i = 23 ∨ i = 24 ∨ i = 25 ∨ i = 26 ∨ i = 27 ∨ i = 28 ∨ i = 29 ∨ i = 30 ∨ i = 31 ∨ i = 32) with rfl | rfl | rfl | rfl | rfl | rfl | rfl | rfl | rfl | rfl | rfl | rfl | rfl | rfl | rfl | rfl | rfl | rfl | rfl | rfl | rfl | rfl | rfl | rfl | rfl | rfl | rfl | rfl | rfl | rfl | rfl | rfl | rfl
        · exact fun v w w' h hr => by exact h
        · exact fun v w w' h hr => by exact h
        · exact fun v w w' h hr => by exact h
        · exact fun v w w' h hr => by exact h
        · exact fun v w w' h hr => by exact h
        · exact fun v w w' h hr => by exact h
        · exact fun v w w' h hr => by exact h
        · exact fun v w w' h hr => by exact h
        · exact fun v w w' h hr => by exact h
        · exact fun v w w' h hr => by exact h
        · exact fun v w w' h hr => by exact h
        · exact fun v w w' h hr => by exact h
        · exact fun v w w' h hr => by exact h
        · exact fun v w w' h hr => by exact h
        · exact fun v w w' h hr => by exact h
        · exact fun v w w' h hr => by exact h
        · exact fun v w w' h hr => by exact h
        · exact fun v w w' h hr => by exact h
        · exact fun v w w' h hr => by exact h
        · exact fun v w w' h hr => by exact h
        · exact fun v w w' h hr => by exact h
        · exact fun v w w' h hr => by exact h
        · exact fun v w w' h hr => by exact h
        · exact fun v w w' h hr => by exact h
        · exact fun v w w' h hr => by exact h
        · exact fun v w w' h hr => by exact h
        · exact fun v w w' h hr => by exact h
        · exact fun v w w' h hr => by exact h
        · exact fun v w w' h hr => by exact h
        · exact fun v w w' h hr => by exact h
        · exact fun v w w' h hr => by exact h
        · exact fun v w w' h hr => by exact h
        · exact fun v w w' h hr => by exact h
      · intro i hi
        rcases (by omega : i = 0 ∨ i = 1 ∨ i = 2 ∨ i = 3 ∨ i = 4 ∨ i = 5 ∨ i = 6 ∨ i = 7 ∨ i = 8 ∨ i = 9 ∨ i = 10 ∨ i = 11 ∨ i = 12 ∨ i = 13 ∨ i = 14 ∨ i = 15 ∨ i = 16 ∨ i = 17 ∨ i = 18 ∨ i = 19 ∨ i = 20 ∨ i = 21 ∨ i = 22 ∨ i = 23 ∨ i = 24 ∨ i = 25 ∨ i = 26 ∨ i = 27 ∨ i = 28 ∨ i = 29 ∨ i = 30 ∨ i = 31 ∨ i = 32) with rfl | rfl | rfl | rfl | rfl | rfl | rfl | rfl | rfl | rfl | rfl | rfl | rfl | rfl | rfl | rfl | rfl | rfl | rfl | rfl | rfl | rfl | rfl | rfl | rfl | rfl | rfl | rfl | rfl | rfl | rfl | rfl | rfl
        · -- 0: Op.load 51 (Operand.tmp 3)
          intro l hl vs W hS hR hp
          obtain rfl : l = [] := hl.symm.trans (by kernel_rfl)
          clear hp hl
          refine opgoal (_) (some 19) rfl rfl fun K hK => ?_
          obtain ⟨f0, f1, f2⟩ := td_cells (hA.out W hS).1
          refine Runs.mk ?_
          simp only [putAll]
          go_simp
          refine hK _ _ ?_ hS ((fun w => Below.refl _ w) W) _ rfl rfl
          first | rfl | go_simp | simp
        · -- 1: Op.load 51 (Operand.tmp 4)
          intro l hl vs W hS hR hp
          obtain rfl : l = [] := hl.symm.trans (by kernel_rfl)
          clear hp hl
          refine opgoal (_) (some 20) rfl rfl fun K hK => ?_
          obtain ⟨f0, f1, f2⟩ := td_cells (hA.out W hS).2.1
          refine Runs.mk ?_
          simp only [putAll]
          go_simp
          refine hK _ _ ?_ hS ((fun w => Below.refl _ w) W) _ rfl rfl
          first | rfl | go_simp | simp
        · -- 2: Op.call { callee := Callee.value (Operand.func 32), args := #[Operand.tmp 19, Operand.tmp 20], argTypes := #[51, 51] }
          intro l hl vs W hS hR hp
          obtain rfl : l = [(0, 19), (1, 20)] := hl.symm.trans (by kernel_rfl)
          have p0 : vs 0 = _ := hp 0 (by decide) (by decide)
          have p1 : vs 1 = _ := hp 1 (by decide) (by decide)
          clear hp hl
          refine opgoal (_) (some 21) rfl rfl fun K hK => ?_
          refine Runs.mk ?_
          simp only [putAll]
          go_simp
          refine (order_any a1 a2 a3 b1 b2 b3 W y1 hy1.out).mono ?_
          rintro e w' ⟨rfl, hb⟩
          go_simp
          exact hK _ _ rfl (below2 hS hb) hb _ rfl rfl
        · -- 3: Op.load 51 (Operand.tmp 3)
          intro l hl vs W hS hR hp
          obtain rfl : l = [] := hl.symm.trans (by kernel_rfl)
          clear hp hl
          refine opgoal (_) (some 22) rfl rfl fun K hK => ?_
          obtain ⟨f0, f1, f2⟩ := td_cells (hA.out W hS).1
          refine Runs.mk ?_
          simp only [putAll]
          go_simp
          refine hK _ _ ?_ hS ((fun w => Below.refl _ w) W) _ rfl rfl
          first | rfl | go_simp | simp
        · -- 4: Op.load 51 (Operand.tmp 4)
          intro l hl vs W hS hR hp
          obtain rfl : l = [] := hl.symm.trans (by kernel_rfl)
          clear hp hl
          refine opgoal (_) (some 23) rfl rfl fun K hK => ?_
          obtain ⟨f0, f1, f2⟩ := td_cells (hA.out W hS).2.1
          refine Runs.mk ?_
          simp only [putAll]
          go_simp
          refine hK _ _ ?_ hS ((fun w => Below.refl _ w) W) _ rfl rfl
          first | rfl | go_simp | simp
        · -- 5: Op.call { callee := Callee.value (Operand.func 33), args := #[Operand.tmp 22, Operand.tmp 23], argTypes := #[51, 51] }
          intro l hl vs W hS hR hp
          obtain rfl : l = [(0, 19), (1, 20), (2, 21), (3, 22), (4, 23)] := hl.symm.trans (by kernel_rfl)
          have p3 : vs 3 = _ := hp 3 (by decide) (by decide)
          have p4 : vs 4 = _ := hp 4 (by decide) (by decide)
          clear hp hl
          refine opgoal (_) (some 24) rfl rfl fun K hK => ?_
          refine Runs.mk ?_
          simp only [putAll]
          go_simp
          refine (order_ref a1 a2 a3 b1 b2 b3 W y1 hy1.out).mono ?_
          rintro e w' ⟨rfl, hb⟩
          go_simp
          exact hK _ _ rfl (below2 hS hb) hb _ rfl rfl
        · -- 6: Op.binOp BinOp.eql 3 (Operand.tmp 21) (Operand.tmp 24) 3
          intro l hl vs W hS hR hp
          obtain rfl : l = [(0, 19), (1, 20), (2, 21), (3, 22), (4, 23), (5, 24)] := hl.symm.trans (by kernel_rfl)
          have p2 : vs 2 = _ := hp 2 (by decide) (by decide)
          have p5 : vs 5 = _ := hp 5 (by decide) (by decide)
          clear hp hl
          refine opgoal (_) (some 25) rfl rfl fun K hK => ?_
          refine Runs.mk ?_
          simp only [putAll]
          go_simp
          refine hK _ _ ?_ hS ((fun w => Below.refl _ w) W) _ rfl rfl
          first | rfl | go_simp | simp
        · -- 7: Op.move (Operand.tmp 25)
          intro l hl vs W hS hR hp
          obtain rfl : l = [(0, 19), (1, 20), (2, 21), (3, 22), (4, 23), (5, 24), (6, 25)] := hl.symm.trans (by kernel_rfl)
          have p6 : vs 6 = _ := hp 6 (by decide) (by decide)
          clear hp hl
          refine opgoal (_) (some 26) rfl rfl fun K hK => ?_
          refine Runs.mk ?_
          simp only [putAll]
          go_simp
          refine hK _ _ ?_ hS ((fun w => Below.refl _ w) W) _ rfl rfl
          first | rfl | go_simp | simp
        · -- 8: Op.load 51 (Operand.tmp 3)  [(7, 'true')]
          intro l hl vs W hS hR hp
          obtain rfl : l = [(0, 19), (1, 20), (2, 21), (3, 22), (4, 23), (5, 24), (6, 25), (7, 26)] := hl.symm.trans (by kernel_rfl)
          have p7 : vs 7 = _ := hp 7 (by decide) (by decide)
          clear hp hl
          refine opgoal (_) (some 27) rfl rfl fun K hK => ?_
          obtain ⟨f0, f1, f2⟩ := td_cells (hA.out W hS).1
          refine Runs.mk ?_
          simp only [putAll]
          go_simp
          refine hK _ _ ?_ hS ((fun w => Below.refl _ w) W) _ rfl rfl
          first | rfl | go_simp | simp
        · -- 9: Op.call { callee := Callee.value (Operand.func 34), args := #[Operand.tmp 27], argTypes := #[51] }  [(7, 'true')]
          intro l hl vs W hS hR hp
          obtain rfl : l = [(0, 19), (1, 20), (2, 21), (3, 22), (4, 23), (5, 24), (6, 25), (7, 26), (8, 27)] := hl.symm.trans (by kernel_rfl)
          have p7 : vs 7 = _ := hp 7 (by decide) (by decide)
          have p8 : vs 8 = _ := hp 8 (by decide) (by decide)
          clear hp hl
          refine opgoal (_) (some 28) rfl rfl fun K hK => ?_
          refine Runs.mk ?_
          simp only [putAll]
          go_simp
          refine (righttid_any ⟨a1, a2, a3⟩ W y2 hy2.out).mono ?_
          rintro e w' ⟨rfl, hb⟩
          go_simp
          exact hK _ _ rfl (below2 hS hb) hb _ rfl rfl
        · -- 10: Op.load 51 (Operand.tmp 3)  [(7, 'true')]
          intro l hl vs W hS hR hp
          obtain rfl : l = [(0, 19), (1, 20), (2, 21), (3, 22), (4, 23), (5, 24), (6, 25), (7, 26)] := hl.symm.trans (by kernel_rfl)
          have p7 : vs 7 = _ := hp 7 (by decide) (by decide)
          clear hp hl
          refine opgoal (_) (some 29) rfl rfl fun K hK => ?_
          obtain ⟨f0, f1, f2⟩ := td_cells (hA.out W hS).1
          refine Runs.mk ?_
          simp only [putAll]
          go_simp
          refine hK _ _ ?_ hS ((fun w => Below.refl _ w) W) _ rfl rfl
          first | rfl | go_simp | simp
        · -- 11: Op.call { callee := Callee.value (Operand.func 35), args := #[Operand.tmp 29], argTypes := #[51] }  [(7, 'true')]
          intro l hl vs W hS hR hp
          obtain rfl : l = [(0, 19), (1, 20), (2, 21), (3, 22), (4, 23), (5, 24), (6, 25), (7, 26), (8, 27), (9, 28), (10, 29)] := hl.symm.trans (by kernel_rfl)
          have p7 : vs 7 = _ := hp 7 (by decide) (by decide)
          have p10 : vs 10 = _ := hp 10 (by decide) (by decide)
          clear hp hl
          refine opgoal (_) (some 30) rfl rfl fun K hK => ?_
          refine Runs.mk ?_
          simp only [putAll]
          go_simp
          refine (righttid_ref ⟨a1, a2, a3⟩ W y2 hy2.out).mono ?_
          rintro e w' ⟨rfl, hb⟩
          go_simp
          exact hK _ _ rfl (below2 hS hb) hb _ rfl rfl
        · -- 12: Op.binOp BinOp.eql 4 (Operand.tmp 28) (Operand.tmp 30) 4  [(7, 'true')]
          intro l hl vs W hS hR hp
          obtain rfl : l = [(0, 19), (1, 20), (2, 21), (3, 22), (4, 23), (5, 24), (6, 25), (7, 26), (8, 27), (9, 28), (10, 29), (11, 30)] := hl.symm.trans (by kernel_rfl)
          have p7 : vs 7 = _ := hp 7 (by decide) (by decide)
          have p9 : vs 9 = _ := hp 9 (by decide) (by decide)
          have p11 : vs 11 = _ := hp 11 (by decide) (by decide)
          clear hp hl
          refine opgoal (_) (some 31) rfl rfl fun K hK => ?_
          refine Runs.mk ?_
          simp only [putAll]
          go_simp
          refine hK _ _ ?_ hS ((fun w => Below.refl _ w) W) _ rfl rfl
          first | rfl | go_simp | simp
        · -- 13: Op.pick (Operand.tmp 26) (Operand.tmp 31) (Operand.const (Value.bool false))
          intro l hl vs W hS hR hp
          obtain rfl : l = [(0, 19), (1, 20), (2, 21), (3, 22), (4, 23), (5, 24), (6, 25), (7, 26), (8, 27), (9, 28), (10, 29), (11, 30), (12, 31)] := hl.symm.trans (by kernel_rfl)
          have p7 : vs 7 = _ := hp 7 (by decide) (by decide)
          have p12 : vs 12 = _ := hp 12 (by decide) (by decide)
          clear hp hl
          refine opgoal (_) (some 32) rfl rfl fun K hK => ?_
          refine Runs.mk ?_
          simp only [putAll]
          go_simp
          refine hK _ _ ?_ hS ((fun w => Below.refl _ w) W) _ rfl rfl
          first | rfl | go_simp | simp
        · -- 14: Op.move (Operand.tmp 32)
          intro l hl vs W hS hR hp
          obtain rfl : l = [(0, 19), (1, 20), (2, 21), (3, 22), (4, 23), (5, 24), (6, 25), (7, 26), (8, 27), (9, 28), (10, 29), (11, 30), (12, 31), (13, 32)] := hl.symm.trans (by kernel_rfl)
          have p13 : vs 13 = _ := hp 13 (by decide) (by decide)
          clear hp hl
          refine opgoal (_) (some 33) rfl rfl fun K hK => ?_
          refine Runs.mk ?_
          simp only [putAll]
          go_simp
          refine hK _ _ ?_ hS ((fun w => Below.refl _ w) W) _ rfl rfl
          first | rfl | go_simp | simp
        · -- 15: Op.fieldAddr 57 (Operand.tmp 5) 0  [(14, 'true')]
          intro l hl vs W hS hR hp
          obtain rfl : l = [(0, 19), (1, 20), (2, 21), (3, 22), (4, 23), (5, 24), (6, 25), (7, 26), (8, 27), (9, 28), (10, 29), (11, 30), (12, 31), (13, 32), (14, 33)] := hl.symm.trans (by kernel_rfl)
          have p14 : vs 14 = _ := hp 14 (by decide) (by decide)
          clear hp hl
          refine opgoal (_) (some 34) rfl rfl fun K hK => ?_
          refine Runs.mk ?_
          simp only [putAll]
          go_simp
          refine hK _ _ ?_ hS ((fun w => Below.refl _ w) W) _ rfl rfl
          first | rfl | go_simp | simp
        · -- 16: Op.load 54 (Operand.tmp 34)  [(14, 'true')]
          intro l hl vs W hS hR hp
          obtain rfl : l = [(0, 19), (1, 20), (2, 21), (3, 22), (4, 23), (5, 24), (6, 25), (7, 26), (8, 27), (9, 28), (10, 29), (11, 30), (12, 31), (13, 32), (14, 33), (15, 34)] := hl.symm.trans (by kernel_rfl)
          have p14 : vs 14 = _ := hp 14 (by decide) (by decide)
          have p15 : vs 15 = _ := hp 15 (by decide) (by decide)
          clear hp hl
          refine opgoal (_) (some 35) rfl rfl fun K hK => ?_
          obtain ⟨f0, f1⟩ := cs_cells (hA.out W hS).2.2
          refine Runs.mk ?_
          simp only [putAll]
          go_simp
          refine hK _ _ ?_ hS ((fun w => Below.refl _ w) W) _ rfl rfl
          first | rfl | go_simp | simp
        · -- 17: Op.call { callee := Callee.value (Operand.func 36), args := #[Operand.tmp 35], argTypes := #[54] }  [(14, 'true')]
          intro l hl vs W hS hR hp
          obtain rfl : l = [(0, 19), (1, 20), (2, 21), (3, 22), (4, 23), (5, 24), (6, 25), (7, 26), (8, 27), (9, 28), (10, 29), (11, 30), (12, 31), (13, 32), (14, 33), (15, 34), (16, 35)] := hl.symm.trans (by kernel_rfl)
          have p14 : vs 14 = _ := hp 14 (by decide) (by decide)
          have p16 : vs 16 = _ := hp 16 (by decide) (by decide)
          clear hp hl
          refine opgoal (_) (some 36) rfl rfl fun K hK => ?_
          refine Runs.mk ?_
          simp only [putAll]
          go_simp
          refine (rightitems_any iA ni ic l W (HI.out.below hS) y3 hy3.out).mono ?_
          rintro e w' ⟨rfl, hb⟩
          go_simp
          exact hK _ _ rfl (below2 hS hb) hb _ rfl rfl
        · -- 18: Op.fieldAddr 57 (Operand.tmp 5) 0  [(14, 'true')]
          intro l hl vs W hS hR hp
          obtain rfl : l = [(0, 19), (1, 20), (2, 21), (3, 22), (4, 23), (5, 24), (6, 25), (7, 26), (8, 27), (9, 28), (10, 29), (11, 30), (12, 31), (13, 32), (14, 33)] := hl.symm.trans (by kernel_rfl)
          have p14 : vs 14 = _ := hp 14 (by decide) (by decide)
          clear hp hl
          refine opgoal (_) (some 37) rfl rfl fun K hK => ?_
          refine Runs.mk ?_
          simp only [putAll]
          go_simp
          refine hK _ _ ?_ hS ((fun w => Below.refl _ w) W) _ rfl rfl
          first | rfl | go_simp | simp
        · -- 19: Op.load 54 (Operand.tmp 37)  [(14, 'true')]
          intro l hl vs W hS hR hp
          obtain rfl : l = [(0, 19), (1, 20), (2, 21), (3, 22), (4, 23), (5, 24), (6, 25), (7, 26), (8, 27), (9, 28), (10, 29), (11, 30), (12, 31), (13, 32), (14, 33), (18, 37)] := hl.symm.trans (by kernel_rfl)
          have p14 : vs 14 = _ := hp 14 (by decide) (by decide)
          have p18 : vs 18 = _ := hp 18 (by decide) (by decide)
          clear hp hl
          refine opgoal (_) (some 38) rfl rfl fun K hK => ?_
          obtain ⟨f0, f1⟩ := cs_cells (hA.out W hS).2.2
          refine Runs.mk ?_
          simp only [putAll]
          go_simp
          refine hK _ _ ?_ hS ((fun w => Below.refl _ w) W) _ rfl rfl
          first | rfl | go_simp | simp
        · -- 20: Op.call { callee := Callee.value (Operand.func 37), args := #[Operand.tmp 38], argTypes := #[54] }  [(14, 'true')]
          intro l hl vs W hS hR hp
          obtain rfl : l = [(0, 19), (1, 20), (2, 21), (3, 22), (4, 23), (5, 24), (6, 25), (7, 26), (8, 27), (9, 28), (10, 29), (11, 30), (12, 31), (13, 32), (14, 33), (15, 34), (16, 35), (17, 36), (18, 37), (19, 38)] := hl.symm.trans (by kernel_rfl)
          have p14 : vs 14 = _ := hp 14 (by decide) (by decide)
          have p19 : vs 19 = _ := hp 19 (by decide) (by decide)
          clear hp hl
          refine opgoal (_) (some 39) rfl rfl fun K hK => ?_
          refine Runs.mk ?_
          simp only [putAll]
          go_simp
          refine (rightitems_ref iA ni ic l W (HI.out.below hS) y3 hy3.out).mono ?_
          rintro e w' ⟨rfl, hb⟩
          go_simp
          exact hK _ _ rfl (below2 hS hb) hb _ rfl rfl
        · -- 21: Op.binOp BinOp.eql 4 (Operand.tmp 36) (Operand.tmp 39) 4  [(14, 'true')]
          intro l hl vs W hS hR hp
          obtain rfl : l = [(0, 19), (1, 20), (2, 21), (3, 22), (4, 23), (5, 24), (6, 25), (7, 26), (8, 27), (9, 28), (10, 29), (11, 30), (12, 31), (13, 32), (14, 33), (15, 34), (16, 35), (17, 36), (18, 37), (19, 38), (20, 39)] := hl.symm.trans (by kernel_rfl)
          have p14 : vs 14 = _ := hp 14 (by decide) (by decide)
          have p17 : vs 17 = _ := hp 17 (by decide) (by decide)
          have p20 : vs 20 = _ := hp 20 (by decide) (by decide)
          clear hp hl
          refine opgoal (_) (some 40) rfl rfl fun K hK => ?_
          refine Runs.mk ?_
          simp only [putAll]
          go_simp
          refine hK _ _ ?_ hS ((fun w => Below.refl _ w) W) _ rfl rfl
          first | rfl | go_simp | simp
        · -- 22: Op.pick (Operand.tmp 33) (Operand.tmp 40) (Operand.const (Value.bool false))
          intro l hl vs W hS hR hp
          obtain rfl : l = [(0, 19), (1, 20), (2, 21), (3, 22), (4, 23), (5, 24), (6, 25), (7, 26), (8, 27), (9, 28), (10, 29), (11, 30), (12, 31), (13, 32), (14, 33), (15, 34), (16, 35), (17, 36), (18, 37), (19, 38), (20, 39), (21, 40)] := hl.symm.trans (by kernel_rfl)
          have p14 : vs 14 = _ := hp 14 (by decide) (by decide)
          have p21 : vs 21 = _ := hp 21 (by decide) (by decide)
          clear hp hl
          refine opgoal (_) (some 41) rfl rfl fun K hK => ?_
          refine Runs.mk ?_
          simp only [putAll]
          go_simp
          refine hK _ _ ?_ hS ((fun w => Below.refl _ w) W) _ rfl rfl
          first | rfl | go_simp | simp
        · -- 23: Op.move (Operand.tmp 41)
          intro l hl vs W hS hR hp
          obtain rfl : l = [(0, 19), (1, 20), (2, 21), (3, 22), (4, 23), (5, 24), (6, 25), (7, 26), (8, 27), (9, 28), (10, 29), (11, 30), (12, 31), (13, 32), (14, 33), (15, 34), (16, 35), (17, 36), (18, 37), (19, 38), (20, 39), (21, 40), (22, 41)] := hl.symm.trans (by kernel_rfl)
          have p22 : vs 22 = _ := hp 22 (by decide) (by decide)
          clear hp hl
          refine opgoal (_) (some 42) rfl rfl fun K hK => ?_
          refine Runs.mk ?_
          simp only [putAll]
          go_simp
          refine hK _ _ ?_ hS ((fun w => Below.refl _ w) W) _ rfl rfl
          first | rfl | go_simp | simp
        · -- 24: Op.fieldAddr 57 (Operand.tmp 5) 1  [(23, 'true')]
          intro l hl vs W hS hR hp
          obtain rfl : l = [(0, 19), (1, 20), (2, 21), (3, 22), (4, 23), (5, 24), (6, 25), (7, 26), (8, 27), (9, 28), (10, 29), (11, 30), (12, 31), (13, 32), (14, 33), (15, 34), (16, 35), (17, 36), (18, 37), (19, 38), (20, 39), (21, 40), (22, 41), (23, 42)] := hl.symm.trans (by kernel_rfl)
          have p23 : vs 23 = _ := hp 23 (by decide) (by decide)
          clear hp hl
          refine opgoal (_) (some 43) rfl rfl fun K hK => ?_
          refine Runs.mk ?_
          simp only [putAll]
          go_simp
          refine hK _ _ ?_ hS ((fun w => Below.refl _ w) W) _ rfl rfl
          first | rfl | go_simp | simp
        · -- 25: Op.load 55 (Operand.tmp 43)  [(23, 'true')]
          intro l hl vs W hS hR hp
          obtain rfl : l = [(0, 19), (1, 20), (2, 21), (3, 22), (4, 23), (5, 24), (6, 25), (7, 26), (8, 27), (9, 28), (10, 29), (11, 30), (12, 31), (13, 32), (14, 33), (15, 34), (16, 35), (17, 36), (18, 37), (19, 38), (20, 39), (21, 40), (22, 41), (23, 42), (24, 43)] := hl.symm.trans (by kernel_rfl)
          have p23 : vs 23 = _ := hp 23 (by decide) (by decide)
          have p24 : vs 24 = _ := hp 24 (by decide) (by decide)
          clear hp hl
          refine opgoal (_) (some 44) rfl rfl fun K hK => ?_
          obtain ⟨f0, f1⟩ := cs_cells (hA.out W hS).2.2
          refine Runs.mk ?_
          simp only [putAll]
          go_simp
          refine hK _ _ ?_ hS ((fun w => Below.refl _ w) W) _ rfl rfl
          first | rfl | go_simp | simp
        · -- 26: Op.call { callee := Callee.value (Operand.func 38), args := #[Operand.tmp 44], argTypes := #[55] }  [(23, 'true')]
          intro l hl vs W hS hR hp
          obtain rfl : l = [(0, 19), (1, 20), (2, 21), (3, 22), (4, 23), (5, 24), (6, 25), (7, 26), (8, 27), (9, 28), (10, 29), (11, 30), (12, 31), (13, 32), (14, 33), (15, 34), (16, 35), (17, 36), (18, 37), (19, 38), (20, 39), (21, 40), (22, 41), (23, 42), (24, 43), (25, 44)] := hl.symm.trans (by kernel_rfl)
          have p23 : vs 23 = _ := hp 23 (by decide) (by decide)
          have p25 : vs 25 = _ := hp 25 (by decide) (by decide)
          clear hp hl
          refine opgoal (_) (some 45) rfl rfl fun K hK => ?_
          refine Runs.mk ?_
          simp only [putAll]
          go_simp
          refine (rightnodes_any nA nn nc xs W (HN.out.below hS) y4 hy4.out).mono ?_
          rintro e w' ⟨rfl, hb⟩
          go_simp
          exact hK _ _ rfl (below2 hS hb) hb _ rfl rfl
        · -- 27: Op.fieldAddr 57 (Operand.tmp 5) 1  [(23, 'true')]
          intro l hl vs W hS hR hp
          obtain rfl : l = [(0, 19), (1, 20), (2, 21), (3, 22), (4, 23), (5, 24), (6, 25), (7, 26), (8, 27), (9, 28), (10, 29), (11, 30), (12, 31), (13, 32), (14, 33), (15, 34), (16, 35), (17, 36), (18, 37), (19, 38), (20, 39), (21, 40), (22, 41), (23, 42)] := hl.symm.trans (by kernel_rfl)
          have p23 : vs 23 = _ := hp 23 (by decide) (by decide)
          clear hp hl
          refine opgoal (_) (some 46) rfl rfl fun K hK => ?_
          refine Runs.mk ?_
          simp only [putAll]
          go_simp
          refine hK _ _ ?_ hS ((fun w => Below.refl _ w) W) _ rfl rfl
          first | rfl | go_simp | simp
        · -- 28: Op.load 55 (Operand.tmp 46)  [(23, 'true')]
          intro l hl vs W hS hR hp
          obtain rfl : l = [(0, 19), (1, 20), (2, 21), (3, 22), (4, 23), (5, 24), (6, 25), (7, 26), (8, 27), (9, 28), (10, 29), (11, 30), (12, 31), (13, 32), (14, 33), (15, 34), (16, 35), (17, 36), (18, 37), (19, 38), (20, 39), (21, 40), (22, 41), (23, 42), (27, 46)] := hl.symm.trans (by kernel_rfl)
          have p23 : vs 23 = _ := hp 23 (by decide) (by decide)
          have p27 : vs 27 = _ := hp 27 (by decide) (by decide)
          clear hp hl
          refine opgoal (_) (some 47) rfl rfl fun K hK => ?_
          obtain ⟨f0, f1⟩ := cs_cells (hA.out W hS).2.2
          refine Runs.mk ?_
          simp only [putAll]
          go_simp
          refine hK _ _ ?_ hS ((fun w => Below.refl _ w) W) _ rfl rfl
          first | rfl | go_simp | simp
        · -- 29: Op.call { callee := Callee.value (Operand.func 39), args := #[Operand.tmp 47], argTypes := #[55] }  [(23, 'true')]
          intro l hl vs W hS hR hp
          obtain rfl : l = [(0, 19), (1, 20), (2, 21), (3, 22), (4, 23), (5, 24), (6, 25), (7, 26), (8, 27), (9, 28), (10, 29), (11, 30), (12, 31), (13, 32), (14, 33), (15, 34), (16, 35), (17, 36), (18, 37), (19, 38), (20, 39), (21, 40), (22, 41), (23, 42), (24, 43), (25, 44), (26, 45), (27, 46), (28, 47)] := hl.symm.trans (by kernel_rfl)
          have p23 : vs 23 = _ := hp 23 (by decide) (by decide)
          have p28 : vs 28 = _ := hp 28 (by decide) (by decide)
          clear hp hl
          refine opgoal (_) (some 48) rfl rfl fun K hK => ?_
          refine Runs.mk ?_
          simp only [putAll]
          go_simp
          refine (rightnodes_ref nA nn nc xs W (HN.out.below hS) y4 hy4.out).mono ?_
          rintro e w' ⟨rfl, hb⟩
          go_simp
          exact hK _ _ rfl (below2 hS hb) hb _ rfl rfl
        · -- 30: Op.binOp BinOp.eql 4 (Operand.tmp 45) (Operand.tmp 48) 4  [(23, 'true')]
          intro l hl vs W hS hR hp
          obtain rfl : l = [(0, 19), (1, 20), (2, 21), (3, 22), (4, 23), (5, 24), (6, 25), (7, 26), (8, 27), (9, 28), (10, 29), (11, 30), (12, 31), (13, 32), (14, 33), (15, 34), (16, 35), (17, 36), (18, 37), (19, 38), (20, 39), (21, 40), (22, 41), (23, 42), (24, 43), (25, 44), (26, 45), (27, 46), (28, 47), (29, 48)] := hl.symm.trans (by kernel_rfl)
          have p23 : vs 23 = _ := hp 23 (by decide) (by decide)
          have p26 : vs 26 = _ := hp 26 (by decide) (by decide)
          have p29 : vs 29 = _ := hp 29 (by decide) (by decide)
          clear hp hl
          refine opgoal (_) (some 49) rfl rfl fun K hK => ?_
          refine Runs.mk ?_
          simp only [putAll]
          go_simp
          refine hK _ _ ?_ hS ((fun w => Below.refl _ w) W) _ rfl rfl
          first | rfl | go_simp | simp
        · -- 31: Op.pick (Operand.tmp 42) (Operand.tmp 49) (Operand.const (Value.bool false))
          intro l hl vs W hS hR hp
          obtain rfl : l = [(0, 19), (1, 20), (2, 21), (3, 22), (4, 23), (5, 24), (6, 25), (7, 26), (8, 27), (9, 28), (10, 29), (11, 30), (12, 31), (13, 32), (14, 33), (15, 34), (16, 35), (17, 36), (18, 37), (19, 38), (20, 39), (21, 40), (22, 41), (23, 42), (24, 43), (25, 44), (26, 45), (27, 46), (28, 47), (29, 48), (30, 49)] := hl.symm.trans (by kernel_rfl)
          have p23 : vs 23 = _ := hp 23 (by decide) (by decide)
          have p30 : vs 30 = _ := hp 30 (by decide) (by decide)
          clear hp hl
          refine opgoal (_) (some 50) rfl rfl fun K hK => ?_
          refine Runs.mk ?_
          simp only [putAll]
          go_simp
          refine hK _ _ ?_ hS ((fun w => Below.refl _ w) W) _ rfl rfl
          first | rfl | go_simp | simp
        · -- 32: Op.assign (Operand.tmp 50)
          intro l hl vs W hS hR hp
          obtain rfl : l = [(0, 19), (1, 20), (2, 21), (3, 22), (4, 23), (5, 24), (6, 25), (7, 26), (8, 27), (9, 28), (10, 29), (11, 30), (12, 31), (13, 32), (14, 33), (15, 34), (16, 35), (17, 36), (18, 37), (19, 38), (20, 39), (21, 40), (22, 41), (23, 42), (24, 43), (25, 44), (26, 45), (27, 46), (28, 47), (29, 48), (30, 49), (31, 50)] := hl.symm.trans (by kernel_rfl)
          have p31 : vs 31 = _ := hp 31 (by decide) (by decide)
          clear hp hl
          refine opgoal (_) (some 6) rfl rfl fun K hK => ?_
          refine Runs.mk ?_
          simp only [putAll]
          go_simp
          refine hK _ _ ?_ hS ((fun w => Below.refl _ w) W) _ rfl rfl
          first | rfl | go_simp | simp
      · intro l hl vs W hS hR hp
        obtain rfl : l = [(0, 19), (1, 20), (2, 21), (3, 22), (4, 23), (5, 24), (6, 25), (7, 26), (8, 27), (9, 28), (10, 29), (11, 30), (12, 31), (13, 32), (14, 33), (15, 34), (16, 35), (17, 36), (18, 37), (19, 38), (20, 39), (21, 40), (22, 41), (23, 42), (24, 43), (25, 44), (26, 45), (27, 46), (28, 47), (29, 48), (30, 49), (31, 50), (32, 6)] := hl.symm.trans (by kernel_rfl)
        have p0 : vs 0 = _ := hp 0 (by decide) (by decide)
        have p1 : vs 1 = _ := hp 1 (by decide) (by decide)
        have p2 : vs 2 = _ := hp 2 (by decide) (by decide)
        have p3 : vs 3 = _ := hp 3 (by decide) (by decide)
        have p4 : vs 4 = _ := hp 4 (by decide) (by decide)
        have p5 : vs 5 = _ := hp 5 (by decide) (by decide)
        have p6 : vs 6 = _ := hp 6 (by decide) (by decide)
        have p7 : vs 7 = _ := hp 7 (by decide) (by decide)
        have p8 : vs 8 = _ := hp 8 (by decide) (by decide)
        have p9 : vs 9 = _ := hp 9 (by decide) (by decide)
        have p10 : vs 10 = _ := hp 10 (by decide) (by decide)
        have p11 : vs 11 = _ := hp 11 (by decide) (by decide)
        have p12 : vs 12 = _ := hp 12 (by decide) (by decide)
        have p13 : vs 13 = _ := hp 13 (by decide) (by decide)
        have p14 : vs 14 = _ := hp 14 (by decide) (by decide)
        have p15 : vs 15 = _ := hp 15 (by decide) (by decide)
        have p16 : vs 16 = _ := hp 16 (by decide) (by decide)
        have p17 : vs 17 = _ := hp 17 (by decide) (by decide)
        have p18 : vs 18 = _ := hp 18 (by decide) (by decide)
        have p19 : vs 19 = _ := hp 19 (by decide) (by decide)
        have p20 : vs 20 = _ := hp 20 (by decide) (by decide)
        have p21 : vs 21 = _ := hp 21 (by decide) (by decide)
        have p22 : vs 22 = _ := hp 22 (by decide) (by decide)
        have p23 : vs 23 = _ := hp 23 (by decide) (by decide)
        have p24 : vs 24 = _ := hp 24 (by decide) (by decide)
        have p25 : vs 25 = _ := hp 25 (by decide) (by decide)
        have p26 : vs 26 = _ := hp 26 (by decide) (by decide)
        have p27 : vs 27 = _ := hp 27 (by decide) (by decide)
        have p28 : vs 28 = _ := hp 28 (by decide) (by decide)
        have p29 : vs 29 = _ := hp 29 (by decide) (by decide)
        have p30 : vs 30 = _ := hp 30 (by decide) (by decide)
        have p31 : vs 31 = _ := hp 31 (by decide) (by decide)
        have p32 : vs 32 = _ := hp 32 (by decide) (by decide)
        clear hp hl
        simp only [putAll_mk, setAll, List.setIfInBounds_toArray, List.set_cons_succ, List.set_cons_zero, p0, p1, p2, p3, p4, p5, p6, p7, p8, p9, p10, p11, p12, p13, p14, p15, p16, p17, p18, p19, p20, p21, p22, p23, p24, p25, p26, p27, p28, p29, p30, p31, p32]
        have HS := Lib.hid hS
        clear hS hR
        go_wp2
        go_ret
        exact ⟨rfl, below2 hb0.out HS.out⟩
theorem rights_row (w : World) (a b : Td) (x : Cs) (ha : goodTd a) (hb : goodTd b) (hx : SlOk w 5 40 encIm goodIm x.i ∧ SlOk w 1 8 intE intG x.n) :
    Calls Try.prog 9 #[.agg (encTd a).toArray, .agg (encTd b).toArray, .agg (encCs x).toArray] w fun e w' => e = .returned (.bool true) ∧ Below w.heap.size w w' :=
  rights_walk w a.a a.b a.c b.a b.b b.c _ _ _ x.i.xs _ _ _ x.n.xs (ims_of hx.1) (ints_rd hx.2)
end Go.Proofs.Ytfpocddpnoighaa.It

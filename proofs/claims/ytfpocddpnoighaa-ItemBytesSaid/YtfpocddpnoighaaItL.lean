/- item: items and nodes are put. -/
import Derived.Test.YtfpocddpnoighaaItK
namespace Go.Proofs.Ytfpocddpnoighaa.It
open Go.RowKit Go.Proofs.Ytfpocddpnoighaa.L Go.Proofs.Ytfpocddpnoighaa.O Go.Proofs.Ytfpocddpnoighaa.A Go.Proofs.Ytfpocddpnoighaa.R Go.Proofs.Ytfpocddpnoighaa.S Go.Proofs.Ytfpocddpnoighaa.T Go.Proofs.Ytfpocddpnoighaa.E Go.Proofs.Ytfpocddpnoighaa.Wr Go.Proofs.Ytfpocddpnoighaa.F
set_option linter.unusedVariables false
set_option linter.unusedSimpArgs false

def itemB (x : Im) : List UInt8 := numsB [x.c, x.v, x.l] ++ ([if x.w then 1 else 0] ++ numsB [x.n])
def itemsB (l : List Im) : List UInt8 := l.flatMap itemB
theorem len_item (x : Im) : (itemB x).length = 33 := by simp [itemB, len_nums]
theorem len_items (l : List Im) : (itemsB l).length = l.length * 33 := by
  induction l with
  | nil => rfl
  | cons x l ih => simp only [itemsB, List.flatMap_cons, List.length_append, List.length_cons] at ih ⊢; rw [ih, len_item]; omega
theorem items_snoc (l : List Im) (k : Nat) (h : k < l.length) (x : Im) (hx : l[k] = x) : itemsB (l.take (k + 1)) = itemsB (l.take k) ++ itemB x := by
  subst hx
  unfold itemsB
  rw [← take_snoc l k h]
  simp only [List.flatMap_append, List.flatMap_cons, List.flatMap_nil, List.append_nil]
/-- how many, put. -/
theorem count_fit (b : Nat) (r : Option Nat) (bs : List UInt8) (bad : Bool) (n : Nat) (hn : n ≤ 65535) (w : World) (h : Wr w b r bs bad) (hlen : bs.length + 2 ≤ 140737488355328) :
    Calls Try.prog 80 #[.pointer (some ⟨b, 0, none⟩), .int .i64 n] w fun e w' => e = .returned (.tuple #[]) ∧ Wrs w b (blks b r) (bs ++ bigB n 2) bad w' := by
  have := count_any b r bs bad n w h hlen
  have hk : okN n = true := by simp [okN]; omega
  rw [hk] at this
  simpa using this
/-- a round's state: the writer, and the item's own block. -/
structure Ph (w0 : World) (b : Nat) (S : List Nat) (gb : Nat) (o : Obj) (r : Option Nat) (bs : List UInt8) (bad : Bool) (W : World) : Prop where
  wr : Wr W b r bs bad
  rs : ∀ k, r = some k → k ∈ S ∨ w0.heap.size ≤ k
  keep : Keep S w0 W
  own : b ∈ S ∨ w0.heap.size ≤ b
  blk : W.heap[gb]? = some o
  ne : gb ∉ blks b r
theorem Ph.below {w0 W W' : World} {b : Nat} {S : List Nat} {gb : Nat} {o : Obj} {r : Option Nat} {bs : List UInt8} {bad : Bool} (h : Ph w0 b S gb o r bs bad W) (hb : Below W.heap.size W W') : Ph w0 b S gb o r bs bad W' :=
  ⟨h.wr.below hb, h.rs, h.keep.trans (.of_below hb), h.own, keep_block (.of_below (S := []) hb) h.blk (by simp), h.ne⟩
theorem Ph.wrs {w0 W : World} {b : Nat} {S : List Nat} {gb : Nat} {o : Obj} {r : Option Nat} {bs : List UInt8} {bad : Bool} (h : Ph w0 b S gb o r bs bad W) : Wrs w0 b S bs bad W := ⟨⟨r, h.wr, h.rs⟩, h.keep, h.own⟩
theorem Ph.step {w0 W W' : World} {b : Nat} {S : List Nat} {gb : Nat} {o : Obj} {r : Option Nat} {bs bs' : List UInt8} {bad bad' : Bool} (h : Ph w0 b S gb o r bs bad W) (hw : Wrs W b (blks b r) bs' bad' W') : ∃ r', Ph w0 b S gb o r' bs' bad' W' := by
  obtain ⟨r', h1, h2⟩ := hw.out
  have hlt : gb < W.heap.size := (Array.getElem?_eq_some_iff.1 h.blk).1
  have hst := Wrs.step h.keep h.own h.rs hw
  refine ⟨r', h1, fun k hk => ?_, hst.keep, h.own, keep_block hw.keep h.blk h.ne, fun hm => ?_⟩
  · rcases h2 k hk with h3 | h3
    · rcases mem_blks.1 h3 with rfl | h3
      · exact h.own
      · exact h.rs k h3
    · exact .inr (Nat.le_trans h.keep.size h3)
  · rcases mem_blks.1 hm with rfl | hm
    · exact h.ne (mem_blks.2 (.inl rfl))
    · rcases h2 gb hm with h3 | h3
      · exact h.ne h3
      · omega
set_option maxHeartbeats 4000000 in
set_option maxRecDepth 100000 in
theorem nodes_put (b : Nat) (r : Option Nat) (bs : List UInt8) (bad : Bool) (xs : List Int) (A : Option Addr) (n c : Nat) (w : World) (h : Wr w b r bs bad) (hr : Rd w A n (xs.map (Value.int .i64))) (hA : 0 < n → ∀ o, A = some o → o.block ∉ blks b r) (hn : n ≤ 65535) (hlen : bs.length + 2 + n * 8 ≤ 140737488355328) :
    Calls Try.prog 42 #[.pointer (some ⟨b, 0, none⟩), .slice A n c] w fun e w' => e = .returned (.tuple #[]) ∧ Wrs w b (blks b r) (bs ++ (bigB n 2 ++ numsB xs)) bad w' := by
  have hxl : xs.length = n := by simpa using hr.len
  have HC := Lib.hid (count_fit b r bs bad n hn w h (by omega))
  have HR := Lib.hid hr
  have HA := Lib.hid hA
  have HL : Hid ((bs ++ bigB n 2).length + xs.length * 8 ≤ 140737488355328) := Lib.hid (by rw [List.length_append, len_big, hxl]; omega)
  clear h hr hA hxl
  go_enter Try.func42, Try.ntmps42
  go_wp2_with fail
  refine HC.out.mono ?_
  rintro e w1 ⟨rfl, h1⟩
  obtain ⟨r1, hw1, hr1⟩ := h1.out
  have HN := Lib.hid (nums_any b r1 (bs ++ bigB n 2) bad xs A n c w1 hw1 (Rd.keep0 HR.out h1.keep HA.out) (fun h0 o ho hm => by
    rcases mem_blks.1 hm with e | e
    · exact HA.out h0 o ho (mem_blks.2 (.inl e))
    · rcases hr1 _ e with e | e
      · exact HA.out h0 o ho e
      · exact absurd (rd_lt HR.out h0 o ho) (by omega)) HL.out)
  have HS : Hid (∀ w2, Wrs w1 b (blks b r1) (bs ++ bigB n 2 ++ numsB xs) bad w2 → Wrs w b (blks b r) (bs ++ (bigB n 2 ++ numsB xs)) bad w2) := Lib.hid (fun w2 h2 => by
    rw [← List.append_assoc]
    exact Wrs.step h1.keep h1.own hr1 h2)
  clear h1 hw1 hr1 HC
  go_wp2_with fail
  refine HN.out.mono ?_
  rintro e w2 ⟨rfl, h2⟩
  go_wp2
  go_end0
  exact ⟨rfl, HS.out _ h2⟩
set_option maxHeartbeats 8000000 in
set_option maxRecDepth 100000 in
theorem items_put (b : Nat) (r : Option Nat) (bs : List UInt8) (bad : Bool) (l : List Im) (A : Option Addr) (n c : Nat) (w : World) (h : Wr w b r bs bad) (hr : Ims w A n l) (hA : 0 < n → ∀ o, A = some o → o.block ∉ blks b r) (hn : n ≤ 65535) (hlen : bs.length + 2 + n * 33 ≤ 140737488355328) :
    Calls Try.prog 41 #[.pointer (some ⟨b, 0, none⟩), .slice A n c] w fun e w' => e = .returned (.tuple #[]) ∧ Wrs w b (blks b r) (bs ++ (bigB n 2 ++ itemsB l)) bad w' := by
  have hn9 := hr.rd.2.1
  have HC := Lib.hid (count_fit b r bs bad n hn w h (by omega))
  have H := Lib.hid hr
  have HN := Lib.hid hr.len
  have HA := Lib.hid hA
  have hlen := Lib.hid hlen
  clear h hr hA
  go_enter Try.func41, Try.ntmps41
  go_wp2_with fail
  refine HC.out.mono ?_
  rintro e w1 ⟨rfl, h1⟩
  have H1 := Lib.hid h1
  clear h1 HC
  go_wp2
  go_loopw [14] (fun i wr => ∃ k : Nat, k ≤ n ∧ i = .int .i64 k ∧ Wrs w b (blks b r) (bs ++ (bigB n 2 ++ itemsB (l.take k))) bad wr) (fun i _ => n - (intOf i).toNat)
  case atStart => exact ⟨0, by omega, rfl, by simpa [itemsB] using H1.out⟩
  case round =>
    obtain ⟨k, hk, rfl, hW⟩ := hrel
    by_cases hlt : k < n
    · have hkl : k < l.length := by have := HN.out; omega
      have hI : Ims wr A n l := ⟨H.out.rd.keep hW.keep HA.out, H.out.good⟩
      obtain ⟨x, hx⟩ : ∃ x, Hid (l[k] = x) := ⟨_, Lib.hid rfl⟩
      obtain ⟨ab, ao, hAe, c0, c1, c2, c3, c4⟩ := hI.at k hlt hkl x hx.out
      subst hAe
      obtain ⟨xc, xv, xl, xw, xn⟩ := x
      dsimp only at c0 c1 c2 c3 c4
      obtain ⟨bs1, hbs1⟩ : ∃ y, Hid (bs ++ (bigB n 2 ++ itemsB (l.take k)) = y) := ⟨_, Lib.hid rfl⟩
      obtain ⟨bs2, hbs2⟩ : ∃ y, Hid (bs1 ++ numsB [xc, xv, xl] = y) := ⟨_, Lib.hid rfl⟩
      obtain ⟨bs3, hbs3⟩ : ∃ y, Hid (bs2 ++ [if xw then 1 else 0] = y) := ⟨_, Lib.hid rfl⟩
      obtain ⟨bs4, hbs4⟩ : ∃ y, Hid (bs3 ++ numsB [xn] = y) := ⟨_, Lib.hid rfl⟩
      have hnext : Hid (bs ++ (bigB n 2 ++ itemsB (l.take (k + 1))) = bs4) := Lib.hid (by
        rw [← hbs4.out, ← hbs3.out, ← hbs2.out, ← hbs1.out, items_snoc l k hkl _ hx.out]
        simp [itemB])
      have e1 : bs1.length = bs.length + 2 + k * 33 := by
        rw [← hbs1.out]; simp [len_items, len_big]; omega
      have hl1 : Hid (bs1.length + 24 ≤ 140737488355328) := Lib.hid (by have := hlen.out; omega)
      have hl2 : Hid (bs2.length + 1 ≤ 140737488355328) := Lib.hid (by rw [← hbs2.out, List.length_append, len_nums]; have := hlen.out; simp; omega)
      have hl3 : Hid (bs3.length + 8 ≤ 140737488355328) := Lib.hid (by rw [← hbs3.out, ← hbs2.out, List.length_append, List.length_append, len_nums]; have := hlen.out; simp; omega)
      rw [hbs1.out] at hW
      clear e1 hI
      obtain ⟨gb, hgb⟩ : ∃ g, Hid (wr.heap.size = g) := ⟨_, Lib.hid rfl⟩
      obtain ⟨W1, hW1⟩ : ∃ W1, Hid (wr.alloc (.cells #[.int .i64 xc, .int .i64 xv, .int .i64 xl, .bool xw, .int .i64 xn] 86) = W1) := ⟨_, Lib.hid rfl⟩
      have hb1 : Below wr.heap.size wr W1 := by rw [← hW1.out]; exact below_alloc _ _
      obtain ⟨r1, h1, h2⟩ := hW.out
      have hP : Ph w b (blks b r) gb (.cells #[.int .i64 xc, .int .i64 xv, .int .i64 xl, .bool xw, .int .i64 xn] 86 (0, 0)) r1 bs1 bad W1 := ⟨h1.below hb1, h2, hW.keep.trans (.of_below hb1), hW.own, by rw [← hW1.out, ← hgb.out]; exact heap_alloc_new _ _, fun hm => by
        rcases mem_blks.1 hm with hm | hm
        · have := h1.lt.1; have := hgb.out; omega
        · have := h1.lt.2 _ hm; have := hgb.out; omega⟩
      have hS0 := hP.below (below_drew (Below.refl _ _))
      clear h1 h2 hP hb1 hW
      go_wp2_with fail
      rw [hW1.out, hgb.out]
      refine wp_region_last (fun W => Ph w b (blks b r) gb (.cells #[.int .i64 xc, .int .i64 xv, .int .i64 xl, .bool xw, .int .i64 xn] 86 (0, 0)) r1 bs1 bad W) (fun u v => Keep (blks b r1) u v) (fun k u v => ((k = 10) → (fun u v => Keep (blks b r1) u v) u v) ∧ (¬ (k = 10) → (fun u v => Below u.heap.size u v) u v)) (fun a i => match i with
          | 0 => (fun v _ => v = a.tmps.getD 0 undef)
          | 1 => (fun v _ => v = .pointer (some ⟨b, 0, none⟩))
          | 2 => (fun v _ => v = .pointer (some ⟨b, 0, none⟩))
          | 3 => (fun v _ => v = .pointer (some ⟨gb, 0, none⟩))
          | 4 => (fun v _ => v = .int .i64 xc)
          | 5 => (fun v _ => v = .pointer (some ⟨gb, 1, none⟩))
          | 6 => (fun v _ => v = .int .i64 xv)
          | 7 => (fun v _ => v = .pointer (some ⟨gb, 2, none⟩))
          | 8 => (fun v _ => v = .int .i64 xl)
          | 9 => (fun v W => ∃ k, v = .slice (some ⟨k, 0, none⟩) 3 3 ∧ k < W.heap.size ∧ k ∉ blks b r1 ∧ W.heap[k]? = some (.cells #[.int .i64 xc, .int .i64 xv, .int .i64 xl] 3 (0, 0)))
          | 10 => (fun v W => ∃ r', Ph w b (blks b r) gb (.cells #[.int .i64 xc, .int .i64 xv, .int .i64 xl, .bool xw, .int .i64 xn] 86 (0, 0)) r' bs2 bad W)
          | _ => (fun _ _ => True)) #[0, 1, 3, 0, 8, 0, 32, 0, 128, 504, 1023] #[0, 1, 2, 0, 8, 0, 32, 0, 128, 336, 516] 1535 10 (by kernel_rfl) 11 rfl (by kernel_rfl) (fun m hm => by subst hm; kernel_rfl) (by kernel_rfl) (fun w => Keep.refl _ w) (fun u v w h1 h2 => h1.trans h2) ?_ ?_ (hS0) ?_ ?_
      · intro k u v hk hr
        by_cases hs : k = 10
        · have h := hr.1 hs; exact h
        · have h := hr.2 hs; exact Keep.of_below h
      · intro i hi hiz
        rcases (by omega : i = 0 ∨ i = 1 ∨ i = 2 ∨ i = 3 ∨ i = 4 ∨ i = 5 ∨ i = 6 ∨ i = 7 ∨ i = 8 ∨ i = 9 ∨ i = 10) with rfl | rfl | rfl | rfl | rfl | rfl | rfl | rfl | rfl | rfl | rfl
        · intro k hk q hq hqt v w w' h hr
          by_cases hs : k = 10
          · have hr0 := hr.1 hs
            rcases hs with rfl
            · exact (fun (h : _) (hr : _) => by exact h) h hr0
          · have hr := hr.2 hs
            exact h
        · intro k hk q hq hqt v w w' h hr
          by_cases hs : k = 10
          · have hr0 := hr.1 hs
            rcases hs with rfl
            · exact (fun (h : _) (hr : _) => by exact h) h hr0
          · have hr := hr.2 hs
            exact h
        · intro k hk q hq hqt v w w' h hr
          by_cases hs : k = 10
          · have hr0 := hr.1 hs
            rcases hs with rfl
            · exact (fun (h : _) (hr : _) => by exact h) h hr0
          · have hr := hr.2 hs
            exact h
        · intro k hk q hq hqt v w w' h hr
          by_cases hs : k = 10
          · have hr0 := hr.1 hs
            rcases hs with rfl
            · exact (fun (h : _) (hr : _) => by exact h) h hr0
          · have hr := hr.2 hs
            exact h
        · intro k hk q hq hqt v w w' h hr
          by_cases hs : k = 10
          · have hr0 := hr.1 hs
            rcases hs with rfl
            · exact (fun (h : _) (hr : _) => by exact h) h hr0
          · have hr := hr.2 hs
            exact h
        · intro k hk q hq hqt v w w' h hr
          by_cases hs : k = 10
          · have hr0 := hr.1 hs
            rcases hs with rfl
            · exact (fun (h : _) (hr : _) => by exact h) h hr0
          · have hr := hr.2 hs
            exact h
        · intro k hk q hq hqt v w w' h hr
          by_cases hs : k = 10
          · have hr0 := hr.1 hs
            rcases hs with rfl
            · exact (fun (h : _) (hr : _) => by exact h) h hr0
          · have hr := hr.2 hs
            exact h
        · intro k hk q hq hqt v w w' h hr
          by_cases hs : k = 10
          · have hr0 := hr.1 hs
            rcases hs with rfl
            · exact (fun (h : _) (hr : _) => by exact h) h hr0
          · have hr := hr.2 hs
            exact h
        · intro k hk q hq hqt v w w' h hr
          by_cases hs : k = 10
          · have hr0 := hr.1 hs
            rcases hs with rfl
            · exact (fun (h : _) (hr : _) => by exact h) h hr0
          · have hr := hr.2 hs
            exact h
        · intro k hk q hq hqt v w w' h hr
          by_cases hs : k = 10
          · have hr0 := hr.1 hs
            rcases hs with rfl
            · exact absurd (hq.trans hqt) (ne_true_of_eq_false (by kernel_rfl))
          · have hr := hr.2 hs
            obtain ⟨k, h1, h2, h3, h4⟩ := h; exact ⟨k, h1, Nat.lt_of_lt_of_le h2 hr.size, h3, (hr.block k h2).trans h4⟩
        · exact absurd rfl hiz
      · intro i hi
        rcases (by omega : i = 0 ∨ i = 1 ∨ i = 2 ∨ i = 3 ∨ i = 4 ∨ i = 5 ∨ i = 6 ∨ i = 7 ∨ i = 8 ∨ i = 9 ∨ i = 10) with rfl | rfl | rfl | rfl | rfl | rfl | rfl | rfl | rfl | rfl | rfl
        · -- 0: Op.move (Operand.tmp 0)
          intro l hl vs W hS hR hp
          obtain rfl : l = [] := hl.symm.trans (by kernel_rfl)
          clear hp hl
          refine opgoal (_) (some 18) rfl rfl fun K hK => ?_
          refine Runs.mk ?_
          simp only [putAll]
          go_simp
          refine hK _ _ ?_ (fun _ => hS) ⟨fun h => absurd h (by decide), fun _ => ((fun w => Below.refl _ w) W)⟩ _ rfl rfl
          first | rfl | go_simp | simp
        · -- 1: Op.nilCheck (Operand.tmp 18)
          intro l hl vs W hS hR hp
          obtain rfl : l = [(0, 18)] := hl.symm.trans (by kernel_rfl)
          have p0 : vs 0 = _ := hp 0 (by decide) (by decide)
          clear hp hl
          refine opgoal (_) (some 19) rfl rfl fun K hK => ?_
          refine Runs.mk ?_
          simp only [putAll]
          go_simp
          refine hK _ _ ?_ (fun _ => hS) ⟨fun h => absurd h (by decide), fun _ => ((fun w => Below.refl _ w) W)⟩ _ rfl rfl
          first | rfl | go_simp | simp
        · -- 2: Op.fieldAddr 65 (Operand.tmp 19) 0
          intro l hl vs W hS hR hp
          obtain rfl : l = [(0, 18), (1, 19)] := hl.symm.trans (by kernel_rfl)
          have p1 : vs 1 = _ := hp 1 (by decide) (by decide)
          clear hp hl
          refine opgoal (_) (some 20) rfl rfl fun K hK => ?_
          refine Runs.mk ?_
          simp only [putAll]
          go_simp
          refine hK _ _ ?_ (fun _ => hS) ⟨fun h => absurd h (by decide), fun _ => ((fun w => Below.refl _ w) W)⟩ _ rfl rfl
          first | rfl | go_simp | simp
        · -- 3: Op.fieldAddr 86 (Operand.tmp 5) 0
          intro l hl vs W hS hR hp
          obtain rfl : l = [] := hl.symm.trans (by kernel_rfl)
          clear hp hl
          refine opgoal (_) (some 21) rfl rfl fun K hK => ?_
          refine Runs.mk ?_
          simp only [putAll]
          go_simp
          refine hK _ _ ?_ (fun _ => hS) ⟨fun h => absurd h (by decide), fun _ => ((fun w => Below.refl _ w) W)⟩ _ rfl rfl
          first | rfl | go_simp | simp
        · -- 4: Op.load 3 (Operand.tmp 21)
          intro l hl vs W hS hR hp
          obtain rfl : l = [(3, 21)] := hl.symm.trans (by kernel_rfl)
          have p3 : vs 3 = _ := hp 3 (by decide) (by decide)
          clear hp hl
          refine opgoal (_) (some 22) rfl rfl fun K hK => ?_
          obtain ⟨f0, f1, f2, f3, f4⟩ := it_cells hS.blk
          refine Runs.mk ?_
          simp only [putAll]
          go_simp
          refine hK _ _ ?_ (fun _ => hS) ⟨fun h => absurd h (by decide), fun _ => ((fun w => Below.refl _ w) W)⟩ _ rfl rfl
          first | rfl | go_simp | simp
        · -- 5: Op.fieldAddr 86 (Operand.tmp 5) 1
          intro l hl vs W hS hR hp
          obtain rfl : l = [] := hl.symm.trans (by kernel_rfl)
          clear hp hl
          refine opgoal (_) (some 23) rfl rfl fun K hK => ?_
          refine Runs.mk ?_
          simp only [putAll]
          go_simp
          refine hK _ _ ?_ (fun _ => hS) ⟨fun h => absurd h (by decide), fun _ => ((fun w => Below.refl _ w) W)⟩ _ rfl rfl
          first | rfl | go_simp | simp
        · -- 6: Op.load 3 (Operand.tmp 23)
          intro l hl vs W hS hR hp
          obtain rfl : l = [(5, 23)] := hl.symm.trans (by kernel_rfl)
          have p5 : vs 5 = _ := hp 5 (by decide) (by decide)
          clear hp hl
          refine opgoal (_) (some 24) rfl rfl fun K hK => ?_
          obtain ⟨f0, f1, f2, f3, f4⟩ := it_cells hS.blk
          refine Runs.mk ?_
          simp only [putAll]
          go_simp
          refine hK _ _ ?_ (fun _ => hS) ⟨fun h => absurd h (by decide), fun _ => ((fun w => Below.refl _ w) W)⟩ _ rfl rfl
          first | rfl | go_simp | simp
        · -- 7: Op.fieldAddr 86 (Operand.tmp 5) 2
          intro l hl vs W hS hR hp
          obtain rfl : l = [] := hl.symm.trans (by kernel_rfl)
          clear hp hl
          refine opgoal (_) (some 25) rfl rfl fun K hK => ?_
          refine Runs.mk ?_
          simp only [putAll]
          go_simp
          refine hK _ _ ?_ (fun _ => hS) ⟨fun h => absurd h (by decide), fun _ => ((fun w => Below.refl _ w) W)⟩ _ rfl rfl
          first | rfl | go_simp | simp
        · -- 8: Op.load 3 (Operand.tmp 25)
          intro l hl vs W hS hR hp
          obtain rfl : l = [(7, 25)] := hl.symm.trans (by kernel_rfl)
          have p7 : vs 7 = _ := hp 7 (by decide) (by decide)
          clear hp hl
          refine opgoal (_) (some 26) rfl rfl fun K hK => ?_
          obtain ⟨f0, f1, f2, f3, f4⟩ := it_cells hS.blk
          refine Runs.mk ?_
          simp only [putAll]
          go_simp
          refine hK _ _ ?_ (fun _ => hS) ⟨fun h => absurd h (by decide), fun _ => ((fun w => Below.refl _ w) W)⟩ _ rfl rfl
          first | rfl | go_simp | simp
        · -- 9: Op.buildSlice 55 3 #[(0, Operand.tmp 22), (1, Operand.tmp 24), (2, Operand.tmp 26)]
          intro l hl vs W hS hR hp
          obtain rfl : l = [(3, 21), (4, 22), (5, 23), (6, 24), (7, 25), (8, 26)] := hl.symm.trans (by kernel_rfl)
          have p4 : vs 4 = _ := hp 4 (by decide) (by decide)
          have p6 : vs 6 = _ := hp 6 (by decide) (by decide)
          have p8 : vs 8 = _ := hp 8 (by decide) (by decide)
          clear hp hl
          refine opgoal (_) (some 27) rfl rfl fun K hK => ?_
          refine Runs.mk ?_
          simp only [putAll]
          go_simp
          have hb := below_alloc W (.cells #[.int .i64 xc, .int .i64 xv, .int .i64 xl] 3)
          exact hK _ _ ⟨W.heap.size, rfl, by simp, fun hm => Nat.lt_irrefl _ (hS.wr.lts _ hm), heap_alloc_new _ _⟩ (fun _ => hS.below hb) ⟨fun h => absurd h (by decide), fun _ => hb⟩ _ rfl rfl
        · -- 10: Op.call { callee := Callee.value (Operand.func 76), args := #[Operand.tmp 20, Operand.tmp 27], argTypes := #[30, 55] }
          intro l hl vs W hS hR hp
          obtain rfl : l = [(0, 18), (1, 19), (2, 20), (3, 21), (4, 22), (5, 23), (6, 24), (7, 25), (8, 26), (9, 27)] := hl.symm.trans (by kernel_rfl)
          have p2 : vs 2 = _ := hp 2 (by decide) (by decide)
          have p9 : (fun v W => ∃ k, v = .slice (some ⟨k, 0, none⟩) 3 3 ∧ k < W.heap.size ∧ k ∉ blks b r1 ∧ W.heap[k]? = some (.cells #[.int .i64 xc, .int .i64 xv, .int .i64 xl] 3 (0, 0))) (vs 9) W := hp 9 (by decide) (by decide)
          dsimp only at p9
          clear hp hl
          obtain ⟨k, q9, l9, n9, b9⟩ := p9
          refine opgoal (_) (some 28) rfl rfl fun K hK => ?_
          refine Runs.mk ?_
          simp only [putAll]
          go_simp
          refine (nums_any b r1 bs1 bad [xc, xv, xl] (some ⟨k, 0, none⟩) 3 3 W hS.wr (rd_ints 3 b9 (by simp) rfl (by decide)) (fun _ o ho => by injection ho with ho; subst ho; exact n9) (by simpa using hl1.out)).mono ?_
          rintro e w' ⟨rfl, hw⟩
          rw [hbs2.out] at hw
          go_simp
          exact hK _ _ (hS.step hw) (fun h => absurd rfl h) ⟨fun _ => hw.keep, fun h => absurd (by decide) h⟩ _ rfl rfl
      · intro l hl vs W hR hp
        obtain rfl : l = [(0, 18), (1, 19), (2, 20), (3, 21), (4, 22), (5, 23), (6, 24), (7, 25), (8, 26), (9, 27), (10, 28)] := hl.symm.trans (by kernel_rfl)
        have p0 : vs 0 = _ := hp 0 (by decide) (by decide)
        have p1 : vs 1 = _ := hp 1 (by decide) (by decide)
        have p2 : vs 2 = _ := hp 2 (by decide) (by decide)
        have p3 : vs 3 = _ := hp 3 (by decide) (by decide)
        have p4 : vs 4 = _ := hp 4 (by decide) (by decide)
        have p5 : vs 5 = _ := hp 5 (by decide) (by decide)
        have p6 : vs 6 = _ := hp 6 (by decide) (by decide)
        have p7 : vs 7 = _ := hp 7 (by decide) (by decide)
        have p8 : vs 8 = _ := hp 8 (by decide) (by decide)
        have p10 : (fun v W => ∃ r', Ph w b (blks b r) gb (.cells #[.int .i64 xc, .int .i64 xv, .int .i64 xl, .bool xw, .int .i64 xn] 86 (0, 0)) r' bs2 bad W) (vs 10) W := hp 10 (by decide) (by decide)
        dsimp only at p10
        clear hp hl
        simp only [putAll_mk, setAll, List.setIfInBounds_toArray, List.set_cons_succ, List.set_cons_zero, p0, p1, p2, p3, p4, p5, p6, p7, p8]
        obtain ⟨r2, h2⟩ := p10
        have hS0 := h2.below (below_drew (Below.refl _ _))
        clear hR h2
        go_wp2_with fail
        refine wp_region_last (fun W => Ph w b (blks b r) gb (.cells #[.int .i64 xc, .int .i64 xv, .int .i64 xl, .bool xw, .int .i64 xn] 86 (0, 0)) r2 bs2 bad W) (fun u v => Keep (blks b r2) u v) (fun k u v => ((k = 5) → (fun u v => Keep (blks b r2) u v) u v) ∧ (¬ (k = 5) → (fun u v => Below u.heap.size u v) u v)) (fun a i => match i with
            | 0 => (fun v _ => v = a.tmps.getD 0 undef)
            | 1 => (fun v _ => v = .pointer (some ⟨b, 0, none⟩))
            | 2 => (fun v _ => v = .pointer (some ⟨b, 0, none⟩))
            | 3 => (fun v _ => v = .pointer (some ⟨gb, 3, none⟩))
            | 4 => (fun v _ => v = .bool xw)
            | 5 => (fun v W => ∃ r', Ph w b (blks b r) gb (.cells #[.int .i64 xc, .int .i64 xv, .int .i64 xl, .bool xw, .int .i64 xn] 86 (0, 0)) r' bs3 bad W)
            | _ => (fun _ _ => True)) #[0, 1, 3, 0, 8, 31] #[0, 1, 2, 0, 8, 20] 63 5 (by kernel_rfl) 6 rfl (by kernel_rfl) (fun m hm => by subst hm; kernel_rfl) (by kernel_rfl) (fun w => Keep.refl _ w) (fun u v w h1 h2 => h1.trans h2) ?_ ?_ (hS0) ?_ ?_
        · intro k u v hk hr
          by_cases hs : k = 5
          · have h := hr.1 hs; exact h
          · have h := hr.2 hs; exact Keep.of_below h
        · intro i hi hiz
          rcases (by omega : i = 0 ∨ i = 1 ∨ i = 2 ∨ i = 3 ∨ i = 4 ∨ i = 5) with rfl | rfl | rfl | rfl | rfl | rfl
          · intro k hk q hq hqt v w w' h hr
            by_cases hs : k = 5
            · have hr0 := hr.1 hs
              rcases hs with rfl
              · exact (fun (h : _) (hr : _) => by exact h) h hr0
            · have hr := hr.2 hs
              exact h
          · intro k hk q hq hqt v w w' h hr
            by_cases hs : k = 5
            · have hr0 := hr.1 hs
              rcases hs with rfl
              · exact (fun (h : _) (hr : _) => by exact h) h hr0
            · have hr := hr.2 hs
              exact h
          · intro k hk q hq hqt v w w' h hr
            by_cases hs : k = 5
            · have hr0 := hr.1 hs
              rcases hs with rfl
              · exact (fun (h : _) (hr : _) => by exact h) h hr0
            · have hr := hr.2 hs
              exact h
          · intro k hk q hq hqt v w w' h hr
            by_cases hs : k = 5
            · have hr0 := hr.1 hs
              rcases hs with rfl
              · exact (fun (h : _) (hr : _) => by exact h) h hr0
            · have hr := hr.2 hs
              exact h
          · intro k hk q hq hqt v w w' h hr
            by_cases hs : k = 5
            · have hr0 := hr.1 hs
              rcases hs with rfl
              · exact (fun (h : _) (hr : _) => by exact h) h hr0
            · have hr := hr.2 hs
              exact h
          · exact absurd rfl hiz
        · intro i hi
          rcases (by omega : i = 0 ∨ i = 1 ∨ i = 2 ∨ i = 3 ∨ i = 4 ∨ i = 5) with rfl | rfl | rfl | rfl | rfl | rfl
          · -- 0: Op.move (Operand.tmp 0)
            intro l hl vs W hS hR hp
            obtain rfl : l = [] := hl.symm.trans (by kernel_rfl)
            clear hp hl
            refine opgoal (_) (some 29) rfl rfl fun K hK => ?_
            refine Runs.mk ?_
            simp only [putAll]
            go_simp
            refine hK _ _ ?_ (fun _ => hS) ⟨fun h => absurd h (by decide), fun _ => ((fun w => Below.refl _ w) W)⟩ _ rfl rfl
            first | rfl | go_simp | simp
          · -- 1: Op.nilCheck (Operand.tmp 29)
            intro l hl vs W hS hR hp
            obtain rfl : l = [(0, 29)] := hl.symm.trans (by kernel_rfl)
            have p0 : vs 0 = _ := hp 0 (by decide) (by decide)
            clear hp hl
            refine opgoal (_) (some 30) rfl rfl fun K hK => ?_
            refine Runs.mk ?_
            simp only [putAll]
            go_simp
            refine hK _ _ ?_ (fun _ => hS) ⟨fun h => absurd h (by decide), fun _ => ((fun w => Below.refl _ w) W)⟩ _ rfl rfl
            first | rfl | go_simp | simp
          · -- 2: Op.fieldAddr 65 (Operand.tmp 30) 0
            intro l hl vs W hS hR hp
            obtain rfl : l = [(0, 29), (1, 30)] := hl.symm.trans (by kernel_rfl)
            have p1 : vs 1 = _ := hp 1 (by decide) (by decide)
            clear hp hl
            refine opgoal (_) (some 31) rfl rfl fun K hK => ?_
            refine Runs.mk ?_
            simp only [putAll]
            go_simp
            refine hK _ _ ?_ (fun _ => hS) ⟨fun h => absurd h (by decide), fun _ => ((fun w => Below.refl _ w) W)⟩ _ rfl rfl
            first | rfl | go_simp | simp
          · -- 3: Op.fieldAddr 86 (Operand.tmp 5) 3
            intro l hl vs W hS hR hp
            obtain rfl : l = [] := hl.symm.trans (by kernel_rfl)
            clear hp hl
            refine opgoal (_) (some 32) rfl rfl fun K hK => ?_
            refine Runs.mk ?_
            simp only [putAll]
            go_simp
            refine hK _ _ ?_ (fun _ => hS) ⟨fun h => absurd h (by decide), fun _ => ((fun w => Below.refl _ w) W)⟩ _ rfl rfl
            first | rfl | go_simp | simp
          · -- 4: Op.load 4 (Operand.tmp 32)
            intro l hl vs W hS hR hp
            obtain rfl : l = [(3, 32)] := hl.symm.trans (by kernel_rfl)
            have p3 : vs 3 = _ := hp 3 (by decide) (by decide)
            clear hp hl
            refine opgoal (_) (some 33) rfl rfl fun K hK => ?_
            obtain ⟨f0, f1, f2, f3, f4⟩ := it_cells hS.blk
            refine Runs.mk ?_
            simp only [putAll]
            go_simp
            refine hK _ _ ?_ (fun _ => hS) ⟨fun h => absurd h (by decide), fun _ => ((fun w => Below.refl _ w) W)⟩ _ rfl rfl
            first | rfl | go_simp | simp
          · -- 5: Op.call { callee := Callee.value (Operand.func 79), args := #[Operand.tmp 31, Operand.tmp 33], argTypes := #[30, 4] }
            intro l hl vs W hS hR hp
            obtain rfl : l = [(0, 29), (1, 30), (2, 31), (3, 32), (4, 33)] := hl.symm.trans (by kernel_rfl)
            have p2 : vs 2 = _ := hp 2 (by decide) (by decide)
            have p4 : vs 4 = _ := hp 4 (by decide) (by decide)
            clear hp hl
            refine opgoal (_) (some 34) rfl rfl fun K hK => ?_
            refine Runs.mk ?_
            simp only [putAll]
            go_simp
            refine (bool_any b r2 bs2 bad xw W hS.wr hl2.out).mono ?_
            rintro e w' ⟨rfl, hw⟩
            rw [hbs3.out] at hw
            go_simp
            exact hK _ _ (hS.step hw) (fun h => absurd rfl h) ⟨fun _ => hw.keep, fun h => absurd (by decide) h⟩ _ rfl rfl
        · intro l hl vs W hR hp
          obtain rfl : l = [(0, 29), (1, 30), (2, 31), (3, 32), (4, 33), (5, 34)] := hl.symm.trans (by kernel_rfl)
          have p0 : vs 0 = _ := hp 0 (by decide) (by decide)
          have p1 : vs 1 = _ := hp 1 (by decide) (by decide)
          have p2 : vs 2 = _ := hp 2 (by decide) (by decide)
          have p3 : vs 3 = _ := hp 3 (by decide) (by decide)
          have p4 : vs 4 = _ := hp 4 (by decide) (by decide)
          have p5 : (fun v W => ∃ r', Ph w b (blks b r) gb (.cells #[.int .i64 xc, .int .i64 xv, .int .i64 xl, .bool xw, .int .i64 xn] 86 (0, 0)) r' bs3 bad W) (vs 5) W := hp 5 (by decide) (by decide)
          dsimp only at p5
          clear hp hl
          simp only [putAll_mk, setAll, List.setIfInBounds_toArray, List.set_cons_succ, List.set_cons_zero, p0, p1, p2, p3, p4]
          obtain ⟨r3, h2⟩ := p5
          have hS0 := h2.below (below_drew (Below.refl _ _))
          clear hR h2
          go_wp2_with fail
          refine wp_region_last (fun W => Ph w b (blks b r) gb (.cells #[.int .i64 xc, .int .i64 xv, .int .i64 xl, .bool xw, .int .i64 xn] 86 (0, 0)) r3 bs3 bad W) (fun u v => Keep (blks b r3) u v) (fun k u v => ((k = 6) → (fun u v => Keep (blks b r3) u v) u v) ∧ (¬ (k = 6) → (fun u v => Below u.heap.size u v) u v)) (fun a i => match i with
              | 0 => (fun v _ => v = a.tmps.getD 0 undef)
              | 1 => (fun v _ => v = .pointer (some ⟨b, 0, none⟩))
              | 2 => (fun v _ => v = .pointer (some ⟨b, 0, none⟩))
              | 3 => (fun v _ => v = .pointer (some ⟨gb, 4, none⟩))
              | 4 => (fun v _ => v = .int .i64 xn)
              | 5 => (fun v W => ∃ k, v = .slice (some ⟨k, 0, none⟩) 1 1 ∧ k < W.heap.size ∧ k ∉ blks b r3 ∧ W.heap[k]? = some (.cells #[.int .i64 xn] 3 (0, 0)))
              | 6 => (fun v W => ∃ r', Ph w b (blks b r) gb (.cells #[.int .i64 xc, .int .i64 xv, .int .i64 xl, .bool xw, .int .i64 xn] 86 (0, 0)) r' bs4 bad W)
              | _ => (fun _ _ => True)) #[0, 1, 3, 0, 8, 24, 63] #[0, 1, 2, 0, 8, 16, 36] 95 6 (by kernel_rfl) 7 rfl (by kernel_rfl) (fun m hm => by subst hm; kernel_rfl) (by kernel_rfl) (fun w => Keep.refl _ w) (fun u v w h1 h2 => h1.trans h2) ?_ ?_ (hS0) ?_ ?_
          · intro k u v hk hr
            by_cases hs : k = 6
            · have h := hr.1 hs; exact h
            · have h := hr.2 hs; exact Keep.of_below h
          · intro i hi hiz
            rcases (by omega : i = 0 ∨ i = 1 ∨ i = 2 ∨ i = 3 ∨ i = 4 ∨ i = 5 ∨ i = 6) with rfl | rfl | rfl | rfl | rfl | rfl | rfl
            · intro k hk q hq hqt v w w' h hr
              by_cases hs : k = 6
              · have hr0 := hr.1 hs
                rcases hs with rfl
                · exact (fun (h : _) (hr : _) => by exact h) h hr0
              · have hr := hr.2 hs
                exact h
            · intro k hk q hq hqt v w w' h hr
              by_cases hs : k = 6
              · have hr0 := hr.1 hs
                rcases hs with rfl
                · exact (fun (h : _) (hr : _) => by exact h) h hr0
              · have hr := hr.2 hs
                exact h
            · intro k hk q hq hqt v w w' h hr
              by_cases hs : k = 6
              · have hr0 := hr.1 hs
                rcases hs with rfl
                · exact (fun (h : _) (hr : _) => by exact h) h hr0
              · have hr := hr.2 hs
                exact h
            · intro k hk q hq hqt v w w' h hr
              by_cases hs : k = 6
              · have hr0 := hr.1 hs
                rcases hs with rfl
                · exact (fun (h : _) (hr : _) => by exact h) h hr0
              · have hr := hr.2 hs
                exact h
            · intro k hk q hq hqt v w w' h hr
              by_cases hs : k = 6
              · have hr0 := hr.1 hs
                rcases hs with rfl
                · exact (fun (h : _) (hr : _) => by exact h) h hr0
              · have hr := hr.2 hs
                exact h
            · intro k hk q hq hqt v w w' h hr
              by_cases hs : k = 6
              · have hr0 := hr.1 hs
                rcases hs with rfl
                · exact absurd (hq.trans hqt) (ne_true_of_eq_false (by kernel_rfl))
              · have hr := hr.2 hs
                obtain ⟨k, h1, h2, h3, h4⟩ := h; exact ⟨k, h1, Nat.lt_of_lt_of_le h2 hr.size, h3, (hr.block k h2).trans h4⟩
            · exact absurd rfl hiz
          · intro i hi
            rcases (by omega : i = 0 ∨ i = 1 ∨ i = 2 ∨ i = 3 ∨ i = 4 ∨ i = 5 ∨ i = 6) with rfl | rfl | rfl | rfl | rfl | rfl | rfl
            · -- 0: Op.move (Operand.tmp 0)
              intro l hl vs W hS hR hp
              obtain rfl : l = [] := hl.symm.trans (by kernel_rfl)
              clear hp hl
              refine opgoal (_) (some 35) rfl rfl fun K hK => ?_
              refine Runs.mk ?_
              simp only [putAll]
              go_simp
              refine hK _ _ ?_ (fun _ => hS) ⟨fun h => absurd h (by decide), fun _ => ((fun w => Below.refl _ w) W)⟩ _ rfl rfl
              first | rfl | go_simp | simp
            · -- 1: Op.nilCheck (Operand.tmp 35)
              intro l hl vs W hS hR hp
              obtain rfl : l = [(0, 35)] := hl.symm.trans (by kernel_rfl)
              have p0 : vs 0 = _ := hp 0 (by decide) (by decide)
              clear hp hl
              refine opgoal (_) (some 36) rfl rfl fun K hK => ?_
              refine Runs.mk ?_
              simp only [putAll]
              go_simp
              refine hK _ _ ?_ (fun _ => hS) ⟨fun h => absurd h (by decide), fun _ => ((fun w => Below.refl _ w) W)⟩ _ rfl rfl
              first | rfl | go_simp | simp
            · -- 2: Op.fieldAddr 65 (Operand.tmp 36) 0
              intro l hl vs W hS hR hp
              obtain rfl : l = [(0, 35), (1, 36)] := hl.symm.trans (by kernel_rfl)
              have p1 : vs 1 = _ := hp 1 (by decide) (by decide)
              clear hp hl
              refine opgoal (_) (some 37) rfl rfl fun K hK => ?_
              refine Runs.mk ?_
              simp only [putAll]
              go_simp
              refine hK _ _ ?_ (fun _ => hS) ⟨fun h => absurd h (by decide), fun _ => ((fun w => Below.refl _ w) W)⟩ _ rfl rfl
              first | rfl | go_simp | simp
            · -- 3: Op.fieldAddr 86 (Operand.tmp 5) 4
              intro l hl vs W hS hR hp
              obtain rfl : l = [] := hl.symm.trans (by kernel_rfl)
              clear hp hl
              refine opgoal (_) (some 38) rfl rfl fun K hK => ?_
              refine Runs.mk ?_
              simp only [putAll]
              go_simp
              refine hK _ _ ?_ (fun _ => hS) ⟨fun h => absurd h (by decide), fun _ => ((fun w => Below.refl _ w) W)⟩ _ rfl rfl
              first | rfl | go_simp | simp
            · -- 4: Op.load 3 (Operand.tmp 38)
              intro l hl vs W hS hR hp
              obtain rfl : l = [(3, 38)] := hl.symm.trans (by kernel_rfl)
              have p3 : vs 3 = _ := hp 3 (by decide) (by decide)
              clear hp hl
              refine opgoal (_) (some 39) rfl rfl fun K hK => ?_
              obtain ⟨f0, f1, f2, f3, f4⟩ := it_cells hS.blk
              refine Runs.mk ?_
              simp only [putAll]
              go_simp
              refine hK _ _ ?_ (fun _ => hS) ⟨fun h => absurd h (by decide), fun _ => ((fun w => Below.refl _ w) W)⟩ _ rfl rfl
              first | rfl | go_simp | simp
            · -- 5: Op.buildSlice 55 1 #[(0, Operand.tmp 39)]
              intro l hl vs W hS hR hp
              obtain rfl : l = [(3, 38), (4, 39)] := hl.symm.trans (by kernel_rfl)
              have p4 : vs 4 = _ := hp 4 (by decide) (by decide)
              clear hp hl
              refine opgoal (_) (some 40) rfl rfl fun K hK => ?_
              refine Runs.mk ?_
              simp only [putAll]
              go_simp
              have hb := below_alloc W (.cells #[.int .i64 xn] 3)
              exact hK _ _ ⟨W.heap.size, rfl, by simp, fun hm => Nat.lt_irrefl _ (hS.wr.lts _ hm), heap_alloc_new _ _⟩ (fun _ => hS.below hb) ⟨fun h => absurd h (by decide), fun _ => hb⟩ _ rfl rfl
            · -- 6: Op.call { callee := Callee.value (Operand.func 76), args := #[Operand.tmp 37, Operand.tmp 40], argTypes := #[30, 55] }
              intro l hl vs W hS hR hp
              obtain rfl : l = [(0, 35), (1, 36), (2, 37), (3, 38), (4, 39), (5, 40)] := hl.symm.trans (by kernel_rfl)
              have p2 : vs 2 = _ := hp 2 (by decide) (by decide)
              have p5 : (fun v W => ∃ k, v = .slice (some ⟨k, 0, none⟩) 1 1 ∧ k < W.heap.size ∧ k ∉ blks b r3 ∧ W.heap[k]? = some (.cells #[.int .i64 xn] 3 (0, 0))) (vs 5) W := hp 5 (by decide) (by decide)
              dsimp only at p5
              clear hp hl
              obtain ⟨k, q9, l9, n9, b9⟩ := p5
              refine opgoal (_) (some 41) rfl rfl fun K hK => ?_
              refine Runs.mk ?_
              simp only [putAll]
              go_simp
              refine (nums_any b r3 bs3 bad [xn] (some ⟨k, 0, none⟩) 1 1 W hS.wr (rd_ints 1 b9 (by simp) rfl (by decide)) (fun _ o ho => by injection ho with ho; subst ho; exact n9) (by simpa using hl3.out)).mono ?_
              rintro e w' ⟨rfl, hw⟩
              rw [hbs4.out] at hw
              go_simp
              exact hK _ _ (hS.step hw) (fun h => absurd rfl h) ⟨fun _ => hw.keep, fun h => absurd (by decide) h⟩ _ rfl rfl
          · intro l hl vs W hR hp
            obtain rfl : l = [(0, 35), (1, 36), (2, 37), (3, 38), (4, 39), (5, 40), (6, 41)] := hl.symm.trans (by kernel_rfl)
            have p0 : vs 0 = _ := hp 0 (by decide) (by decide)
            have p1 : vs 1 = _ := hp 1 (by decide) (by decide)
            have p2 : vs 2 = _ := hp 2 (by decide) (by decide)
            have p3 : vs 3 = _ := hp 3 (by decide) (by decide)
            have p4 : vs 4 = _ := hp 4 (by decide) (by decide)
            have p6 : (fun v W => ∃ r', Ph w b (blks b r) gb (.cells #[.int .i64 xc, .int .i64 xv, .int .i64 xl, .bool xw, .int .i64 xn] 86 (0, 0)) r' bs4 bad W) (vs 6) W := hp 6 (by decide) (by decide)
            dsimp only at p6
            clear hp hl
            simp only [putAll_mk, setAll, List.setIfInBounds_toArray, List.set_cons_succ, List.set_cons_zero, p0, p1, p2, p3, p4]
            obtain ⟨r4, h2⟩ := p6
            have HE := Lib.hid h2.wrs
            clear hR h2
            go_wp2
            go_roundw
            case rel => exact ⟨k + 1, by omega, by go_num, by rw [hnext.out]; exact HE.out⟩
            case measure => simp [intOf]; omega
    · have hkn : n = k := by omega
      have hres : Hid (Wrs w b (blks b r) (bs ++ (bigB n 2 ++ itemsB l)) bad wr) := Lib.hid (by
        rw [List.take_of_length_le (by have := HN.out; omega)] at hW; exact hW)
      go_wp2
      go_end0
      exact ⟨rfl, hres.out⟩
end Go.Proofs.Ytfpocddpnoighaa.It

/- Free, Expire, Of, Held, New; two lists alike. -/
import Derived.Test.YtljdiaokjocfpaaLsF
import Derived.Laws.MakeOwn
namespace Go.Proofs.Ytljdiaokjocfpaa.Ls
open Go.RowKit Go.Proofs.Ytljdiaokjocfpaa.L Go.Proofs.Ytljdiaokjocfpaa.A Go.Proofs.Ytljdiaokjocfpaa.R Go.Proofs.Ytljdiaokjocfpaa.S Go.Proofs.Ytljdiaokjocfpaa.T
set_option linter.unusedVariables false
set_option linter.unusedSimpArgs false

/-- a table that was made behind w0; all that was there then is as it was. -/
structure LT (w0 w : World) (b g : Nat) (ss : List Slt) : Prop where
  tab : Tab w b g ss
  low : Below w0.heap.size w0 w
  hg : w0.heap.size ≤ g
theorem LT.below {w0 w w1 : World} {b g : Nat} {ss : List Slt} (h : LT w0 w b g ss) (hb : Below w.heap.size w w1) : LT w0 w1 b g ss := ⟨h.tab.below hb, below2 h.low hb, h.hg⟩
theorem LT.keep {w0 w w1 : World} {b g : Nat} {ss ss1 : List Slt} (h : LT w0 w b g ss) (ht : Tab w1 b g ss1) (hk : Keep [g] w w1) : LT w0 w1 b g ss1 :=
  ⟨ht, h.low.trans (hk.below h.low.size (by simpa using h.hg)), h.hg⟩
theorem lt_hold {w0 w : World} {b g : Nat} {ss : List Slt} (h : LT w0 w b g ss) (ta tb tc u : Int) (A : Option Addr) (n c : Nat) (xs : List Int) (hr : Rd w A n (xs.map (Value.int .i64))) (hA : 0 < n → ∀ o, A = some o → o.block ≠ g) (E : Int) (F : List Slt) (hE : holdE ss ta tb tc xs = E) (hF : holdS ss ta tb tc u xs = F) :
    Calls Try.prog 29 #[.pointer (some ⟨b, 0, none⟩), .agg #[.int .i64 ta, .int .i64 tb, .int .i64 tc], .int .i64 u, .slice A n c] w fun e w' => e = .returned (.int .i64 E) ∧ LT w0 w' b g F ∧ Keep [g] w w' := by
  subst hE; subst hF
  refine (hold_any b g ss ta tb tc u A n c xs w h.tab hr hA).mono ?_
  rintro e w' ⟨he, ht, hk⟩
  exact ⟨he, h.keep ht hk, hk⟩
def ListPost (w0 w : World) (b g : Nat) (l : List Nat) (ss : List Slt) (e : Ending) (w' : World) : Prop :=
  ∃ A c, e = .returned (.slice A l.length c) ∧ Rd w' A l.length (intsV l) ∧ LT w0 w' b g ss ∧ Keep [g] w w'
theorem own_mono {w : World} {B B' : Nat} {e : TypeId} {size n : Nat} {v : Value} {xs : List Value} (h : w.ownsRow B e size v n xs) (hB : B' ≤ B) : w.ownsRow B' e size v n xs := by
  refine ⟨h.1, ?_⟩
  rcases h.2 with hn | ⟨g, cap, cur, rfl, hbg, rest⟩
  · exact .inl hn
  · exact .inr ⟨g, cap, cur, rfl, Nat.le_trans hB hbg, rest⟩
theorem list_post {w0 w w' : World} {b g : Nat} {q : Slt → Bool} {ss : List Slt} {e : Ending} (h : LT w0 w b g ss) (hp : DropPost w b g q ss e w') : ListPost w0 w b g (dropL q ss ss.length) (dropS q ss) e w' := by
  obtain ⟨v, rfl, ho, ht, hk⟩ := hp
  obtain ⟨A, c, rfl, hr, _⟩ := own_rd ho
  exact ⟨A, c, rfl, hr, h.keep ht hk, hk⟩
theorem lt_expire {w0 w : World} {b g : Nat} {ss : List Slt} (h : LT w0 w b g ss) (now : Int) (l : List Nat) (F : List Slt) (hl : dropL (fun s => decide (s.u ≤ now)) ss ss.length = l) (hF : dropS (fun s => decide (s.u ≤ now)) ss = F) :
    Calls Try.prog 30 #[.pointer (some ⟨b, 0, none⟩), .int .i64 now] w (ListPost w0 w b g l F) := by
  subst hl; subst hF
  have hmf : ∀ (fn : Fn) (first cap : Array Value) (w : World), (Instr.makeFunc fn first cap).run Try.prog w = .ok (.func fn first cap) w := fun _ _ _ _ => rfl
  have hgl := h.tab.lt.2
  have hW := h.below (below_alloc w (.cells #[.int .i64 now] 3))
  have told : ToldH Try.prog 45 #[.pointer (some ⟨w.heap.size, 0, none⟩)] (fun s => decide (s.u ≤ now)) g (w.alloc (.cells #[.int .i64 now] 3)) := fun s w1 hk =>
    exp1 w.heap.size s.a s.b s.c s.u now w1 (keep_cell hk (cell_alloc w _ _ 0) (by simp; omega))
  have HC := Lib.hid (drop_any b g ss _ _ _ _ hW.tab bodied_exp1 told)
  have HW := Lib.hid hW
  clear h hW told hgl
  go_enter Try.func30, Try.ntmps30
  go_wp2_with fail
  refine HC.out.mono ?_
  rintro e w1 hp
  obtain ⟨A, c, rfl, hr, hL, hk⟩ := list_post HW.out hp
  clear hp HC
  go_wp2
  go_ret
  exact ⟨A, c, rfl, hr, hL, (Keep.of_below (below_alloc _ _)).trans hk⟩
theorem lt_free {w0 w : World} {b g : Nat} {ss : List Slt} (h : LT w0 w b g ss) (ta tb tc : Int) (l : List Nat) (F : List Slt) (hl : dropL (fun s => tidB s.a s.b s.c ta tb tc) ss ss.length = l) (hF : dropS (fun s => tidB s.a s.b s.c ta tb tc) ss = F) :
    Calls Try.prog 33 #[.pointer (some ⟨b, 0, none⟩), .agg #[.int .i64 ta, .int .i64 tb, .int .i64 tc]] w (ListPost w0 w b g l F) := by
  subst hl; subst hF
  have hmf : ∀ (fn : Fn) (first cap : Array Value) (w : World), (Instr.makeFunc fn first cap).run Try.prog w = .ok (.func fn first cap) w := fun _ _ _ _ => rfl
  have hgl := h.tab.lt.2
  have hW := h.below (below_alloc w (.cells #[.int .i64 ta, .int .i64 tb, .int .i64 tc] 55))
  have told : ToldH Try.prog 46 #[.pointer (some ⟨w.heap.size, 0, none⟩)] (fun s => tidB s.a s.b s.c ta tb tc) g (w.alloc (.cells #[.int .i64 ta, .int .i64 tb, .int .i64 tc] 55)) := fun s w1 hk =>
    free1 w.heap.size s.a s.b s.c s.u ta tb tc w1 (keep_cell hk (cell_alloc w _ _ 0) (by simp; omega)) (keep_cell hk (cell_alloc w _ _ 1) (by simp; omega)) (keep_cell hk (cell_alloc w _ _ 2) (by simp; omega))
  have HC := Lib.hid (drop_any b g ss _ _ _ _ hW.tab bodied_free1 told)
  have HW := Lib.hid hW
  clear h hW told hgl
  go_enter Try.func33, Try.ntmps33
  go_wp2_with fail
  refine HC.out.mono ?_
  rintro e w1 hp
  obtain ⟨A, c, rfl, hr, hL, hk⟩ := list_post HW.out hp
  clear hp HC
  go_wp2
  go_ret
  exact ⟨A, c, rfl, hr, hL, (Keep.of_below (below_alloc _ _)).trans hk⟩
theorem expire_nil (now : Int) (w : World) : Calls Try.prog 30 #[.pointer none, .int .i64 now] w fun e w' => e = .returned (.slice none 0 0) ∧ Below w.heap.size w w' := by
  have hmf : ∀ (fn : Fn) (first cap : Array Value) (w : World), (Instr.makeFunc fn first cap).run Try.prog w = .ok (.func fn first cap) w := fun _ _ _ _ => rfl
  go_enter Try.func30, Try.ntmps30
  go_wp2_with fail
  refine (drop_nil _ _ _).mono ?_
  rintro e w1 ⟨rfl, rfl⟩
  go_wp2
  go_ret
  exact ⟨rfl, below_alloc _ _⟩
theorem free_nil (ta tb tc : Int) (w : World) : Calls Try.prog 33 #[.pointer none, .agg #[.int .i64 ta, .int .i64 tb, .int .i64 tc]] w fun e w' => e = .returned (.slice none 0 0) ∧ Below w.heap.size w w' := by
  have hmf : ∀ (fn : Fn) (first cap : Array Value) (w : World), (Instr.makeFunc fn first cap).run Try.prog w = .ok (.func fn first cap) w := fun _ _ _ _ => rfl
  go_enter Try.func33, Try.ntmps33
  go_wp2_with fail
  refine (drop_nil _ _ _).mono ?_
  rintro e w1 ⟨rfl, rfl⟩
  go_wp2
  go_ret
  exact ⟨rfl, below_alloc _ _⟩
theorem held_nil (w : World) : Calls Try.prog 39 #[.pointer none] w fun e w' => e = .returned (.int .i64 0) ∧ w = w' := by
  go_enter Try.func39, Try.ntmps39
  go_wp2
  go_ret
  exact ⟨rfl, rfl⟩
theorem hold_size : (Try.prog.info? 58).map (·.size) = some 4 := by kernel_rfl
theorem of_none (p : Option Addr) (x : Int) (w : World) (hN : ∀ (w1 : World) (A : Option Addr), Below w.heap.size w w1 → Rd w1 A 1 [.int .i64 x] → Calls Try.prog 43 #[.pointer p, .slice A 1 1] w1 fun e w' => e = .returned (.bool true) ∧ Below w1.heap.size w1 w') :
    Calls Try.prog 31 #[.pointer p, .int .i64 x] w fun e w' => e = .returned (.tuple #[.agg #[.int .i64 0, .int .i64 0, .int .i64 0, .int .i64 0], .bool false]) ∧ Below w.heap.size w w' := by
  obtain ⟨W, hW⟩ : ∃ W, Hid ((w.alloc (.cells #[.int .i64 0, .int .i64 0, .int .i64 0, .int .i64 0] 58)).alloc (.cells #[.int .i64 x] 3) = W) := ⟨_, Lib.hid rfl⟩
  have hWb : Below w.heap.size w W := by rw [← hW.out]; exact below2 (below_alloc _ _) (below_alloc _ _)
  have hWr : Rd W (some ⟨w.heap.size + 1, 0, none⟩) 1 [.int .i64 x] := rd_one (by rw [← hW.out]; have := cell_alloc (w.alloc (.cells #[.int .i64 0, .int .i64 0, .int .i64 0, .int .i64 0] 58)) #[.int .i64 x] 3 0; simp)
  have hW0 : W.heap[w.heap.size]? = some (.cells #[.int .i64 0, .int .i64 0, .int .i64 0, .int .i64 0] 58) := by rw [← hW.out, heap_alloc_old _ _ (by simp)]; exact heap_alloc_new _ _
  have HC := Lib.hid (hN W _ hWb hWr)
  clear hN
  go_enter Try.func31, Try.ntmps31
  go_wp2_with fail
  rw [hW.out]
  refine HC.out.mono ?_
  rintro e w1 ⟨rfl, hb⟩
  have h1 := Lib.hid ((hb.block w.heap.size (Array.getElem?_eq_some_iff.1 hW0).1).trans hW0)
  go_wp2_with (refine wpList_store_blk rfl 58 (.tmp 4) (.tmp 21) rfl w.heap.size 0 rfl 58 _ (.agg #[.int .i64 0, .int .i64 0, .int .i64 0, .int .i64 0]) rfl h1.out hold_size (by decide) (by simp [Value.cells, Value.oneCell']) _ rfl ?_; intro w5 hg5 hu5)
  have k0 : w5.cell? ⟨w.heap.size, 0, none⟩ = some (.int .i64 0) := by rw [cell_of_row w5 _ 0 _ _ _ hg5]; rfl
  have k1 : w5.cell? ⟨w.heap.size, 1, none⟩ = some (.int .i64 0) := by rw [cell_of_row w5 _ 1 _ _ _ hg5]; rfl
  have k2 : w5.cell? ⟨w.heap.size, 2, none⟩ = some (.int .i64 0) := by rw [cell_of_row w5 _ 2 _ _ _ hg5]; rfl
  have k3 : w5.cell? ⟨w.heap.size, 3, none⟩ = some (.int .i64 0) := by rw [cell_of_row w5 _ 3 _ _ _ hg5]; rfl
  refine bodyPost_ret (v := .tuple #[.agg #[.int .i64 0, .int .i64 0, .int .i64 0, .int .i64 0], .bool false]) (by simp [results, Try.results31, go_sem, k0, k1, k2, k3]) rfl ⟨rfl, ?_⟩
  exact (below2 hWb hb).trans (hu5.below (Nat.le_refl _))
theorem of_nil (x : Int) (w : World) : Calls Try.prog 31 #[.pointer none, .int .i64 x] w fun e w' => e = .returned (.tuple #[.agg #[.int .i64 0, .int .i64 0, .int .i64 0, .int .i64 0], .bool false]) ∧ Below w.heap.size w w' :=
  of_none none x w fun w1 A _ _ => none_nil _ _ _ _
theorem of_out (b g : Nat) (ss : List Slt) (x : Int) (w : World) (h : Tab w b g ss) (ho : outB ss.length x = true) : Calls Try.prog 31 #[.pointer (some ⟨b, 0, none⟩), .int .i64 x] w fun e w' => e = .returned (.tuple #[.agg #[.int .i64 0, .int .i64 0, .int .i64 0, .int .i64 0], .bool false]) ∧ Below w.heap.size w w' :=
  of_none (some ⟨b, 0, none⟩) x w fun w1 A hb hr => none_any b g ss A 1 1 [x] w1 (h.below hb) hr true (by simp [ho])
def holdOf (s : Slt) : Array Value := if s.on then #[.int .i64 s.a, .int .i64 s.b, .int .i64 s.c, .int .i64 s.u] else #[.int .i64 0, .int .i64 0, .int .i64 0, .int .i64 0]
set_option maxHeartbeats 1000000 in
theorem of_in (b g : Nat) (ss : List Slt) (k : Nat) (w : World) (h : Tab w b g ss) (hk : k < ss.length) (s : Slt) (hs' : ss[k] = s) : Calls Try.prog 31 #[.pointer (some ⟨b, 0, none⟩), .int .i64 k] w fun e w' => e = .returned (.tuple #[.agg (holdOf s), .bool s.on]) ∧ Below w.heap.size w w' := by
  obtain ⟨W, hW⟩ : ∃ W, Hid ((w.alloc (.cells #[.int .i64 0, .int .i64 0, .int .i64 0, .int .i64 0] 58)).alloc (.cells #[.int .i64 (k : Int)] 3) = W) := ⟨_, Lib.hid rfl⟩
  have hWb : Below w.heap.size w W := by rw [← hW.out]; exact below2 (below_alloc _ _) (below_alloc _ _)
  have hWr : Rd W (some ⟨w.heap.size + 1, 0, none⟩) 1 [.int .i64 (k : Int)] := rd_one (by rw [← hW.out]; have := cell_alloc (w.alloc (.cells #[.int .i64 0, .int .i64 0, .int .i64 0, .int .i64 0] 58)) #[.int .i64 (k : Int)] 3 0; simp)
  have hW0 : W.heap[w.heap.size]? = some (.cells #[.int .i64 0, .int .i64 0, .int .i64 0, .int .i64 0] 58) := by rw [← hW.out, heap_alloc_old _ _ (by simp)]; exact heap_alloc_new _ _
  have hT := h.below hWb
  have hq : [(k : Int)].any (outB ss.length) = false := by simp [outB]; omega
  have HC := Lib.hid (none_any b g ss _ 1 1 [(k : Int)] W hT hWr false hq)
  obtain ⟨L, hL⟩ : ∃ L, Hid (ss.length = L) := ⟨_, Lib.hid rfl⟩
  have hkL : k < L := by rw [← hL.out]; exact hk
  have hlen : L ≤ 16 := by rw [← hL.out]; exact h.len.2
  have hs := Lib.hid hs'
  clear hs' h hWr hq
  obtain ⟨sa, sb, sc, su, on⟩ := s
  cases on
  · -- off
    go_enter Try.func31, Try.ntmps31
    go_wp2_with fail
    rw [hW.out]
    refine HC.out.mono ?_
    rintro e w1 ⟨rfl, hb⟩
    have h1 := Lib.hid ((hb.block w.heap.size (Array.getElem?_eq_some_iff.1 hW0).1).trans hW0)
    have hT1 := hT.below hb
    have hT0 := hT1.c0
    rw [hL.out] at hT0
    obtain ⟨c0, c1, c2, c3, c4⟩ := hT1.cells hk _ hs.out
    dsimp only at c0 c1 c2 c3 c4
    clear hT1
    go_wp2_with (refine wpList_store_blk rfl 58 (.tmp 4) (.tmp 21) rfl w.heap.size 0 rfl 58 _ (.agg #[.int .i64 0, .int .i64 0, .int .i64 0, .int .i64 0]) rfl h1.out hold_size (by decide) (by simp [Value.cells, Value.oneCell']) _ rfl ?_; intro w5 hg5 hu5)
    have k0 : w5.cell? ⟨w.heap.size, 0, none⟩ = some (.int .i64 0) := by rw [cell_of_row w5 _ 0 _ _ _ hg5]; rfl
    have k1 : w5.cell? ⟨w.heap.size, 1, none⟩ = some (.int .i64 0) := by rw [cell_of_row w5 _ 1 _ _ _ hg5]; rfl
    have k2 : w5.cell? ⟨w.heap.size, 2, none⟩ = some (.int .i64 0) := by rw [cell_of_row w5 _ 2 _ _ _ hg5]; rfl
    have k3 : w5.cell? ⟨w.heap.size, 3, none⟩ = some (.int .i64 0) := by rw [cell_of_row w5 _ 3 _ _ _ hg5]; rfl
    refine bodyPost_ret (v := .tuple #[.agg #[.int .i64 0, .int .i64 0, .int .i64 0, .int .i64 0], .bool false]) (by simp [results, Try.results31, go_sem, k0, k1, k2, k3]) rfl ⟨rfl, ?_⟩
    exact (below2 hWb hb).trans (hu5.below (Nat.le_refl _))
  · -- on
    go_enter Try.func31, Try.ntmps31
    go_wp2_with fail
    rw [hW.out]
    refine HC.out.mono ?_
    rintro e w1 ⟨rfl, hb⟩
    have h1 := Lib.hid ((hb.block w.heap.size (Array.getElem?_eq_some_iff.1 hW0).1).trans hW0)
    have hT1 := hT.below hb
    have hT0 := hT1.c0
    rw [hL.out] at hT0
    obtain ⟨c0, c1, c2, c3, c4⟩ := hT1.cells hk _ hs.out
    dsimp only at c0 c1 c2 c3 c4
    clear hT1
    go_wp2_with (refine wpList_store_blk rfl 58 (.tmp 4) (.tmp 29) rfl w.heap.size 0 rfl 58 _ (.agg #[.int .i64 sa, .int .i64 sb, .int .i64 sc, .int .i64 su]) rfl h1.out hold_size (by simp [Value.cells]) (by simp [Value.cells, Value.oneCell']) _ rfl ?_; intro w5 hg5 hu5)
    have k0 : w5.cell? ⟨w.heap.size, 0, none⟩ = some (.int .i64 sa) := by rw [cell_of_row w5 _ 0 _ _ _ hg5]; rfl
    have k1 : w5.cell? ⟨w.heap.size, 1, none⟩ = some (.int .i64 sb) := by rw [cell_of_row w5 _ 1 _ _ _ hg5]; rfl
    have k2 : w5.cell? ⟨w.heap.size, 2, none⟩ = some (.int .i64 sc) := by rw [cell_of_row w5 _ 2 _ _ _ hg5]; rfl
    have k3 : w5.cell? ⟨w.heap.size, 3, none⟩ = some (.int .i64 su) := by rw [cell_of_row w5 _ 3 _ _ _ hg5]; rfl
    refine bodyPost_ret (v := .tuple #[.agg #[.int .i64 sa, .int .i64 sb, .int .i64 sc, .int .i64 su], .bool true]) (by simp [results, Try.results31, go_sem, k0, k1, k2, k3]) rfl ⟨rfl, ?_⟩
    exact (below2 hWb hb).trans (hu5.below (Nat.le_refl _))
/-- two lists alike. -/
theorem same_any (A B : Option Addr) (na ca nb cb : Nat) (xa xb : List Int) (w : World) (ha : Rd w A na (xa.map (Value.int .i64))) (hb : Rd w B nb (xb.map (Value.int .i64))) (r : Bool) (hr' : (xa == xb) = r) :
    Calls Try.prog 35 #[.slice A na ca, .slice B nb cb] w fun e w' => e = .returned (.bool r) ∧ Below w.heap.size w w' := by
  have hla : xa.length = na := by simpa using ha.len
  have hlb : xb.length = nb := by simpa using hb.len
  have hna := ha.2.1
  have hnb := hb.2.1
  have HA := Lib.hid ha
  have HB := Lib.hid hb
  have HLA := Lib.hid hla
  have HLB := Lib.hid hlb
  clear ha hb hla hlb
  have hr := Lib.hid hr'
  clear hr'
  by_cases hn : na = nb
  · subst hn
    go_enter Try.func35, Try.ntmps35
    go_wp2
    go_loopw [5] (fun i wr => ∃ k : Nat, k ≤ na ∧ i = .int .i64 k ∧ Below w.heap.size w wr ∧ Hid (∀ j, j < k → xa[j]? = xb[j]?)) (fun i _ => na - (intOf i).toNat)
    case atStart => exact ⟨0, by omega, rfl, Below.refl _ _, Lib.hid fun j h => absurd h (by omega)⟩
    case round =>
      obtain ⟨k, hk, rfl, hbw, heq⟩ := hrel
      by_cases hlt : k < na
      · have ra := HA.out.below hbw
        have rb := HB.out.below hbw
        obtain ⟨ab, ao, hAe, hca⟩ := ra.2.2 (by omega)
        obtain ⟨bb, bo, hBe, hcb⟩ := rb.2.2 (by omega)
        subst hAe
        subst hBe
        have hka : k < xa.length := by have := HLA.out; omega
        have hkb : k < xb.length := by have := HLB.out; omega
        obtain ⟨y, hy⟩ : ∃ y : Int, Hid (y = xa[k]) := ⟨_, Lib.hid rfl⟩
        obtain ⟨z, hz⟩ : ∃ z : Int, Hid (z = xb[k]) := ⟨_, Lib.hid rfl⟩
        have ca1 := hca k hlt
        have cb1 := hcb k hlt
        rw [List.getElem?_map, List.getElem?_eq_getElem hka, ← hy.out] at ca1
        rw [List.getElem?_map, List.getElem?_eq_getElem hkb, ← hz.out] at cb1
        simp only [Option.map_some] at ca1 cb1
        clear hca hcb ra rb
        by_cases hyz : y = z
        · subst hyz
          have hres : Hid (∀ j, j < k + 1 → xa[j]? = xb[j]?) := Lib.hid fun j hj => by
            by_cases e : j = k
            · subst e; rw [List.getElem?_eq_getElem hka, List.getElem?_eq_getElem hkb, ← hy.out, ← hz.out]
            · exact heq.out j (by omega)
          go_wp2
          go_quiet (fail)
          go_wp2
          go_roundw
          case rel => exact ⟨k + 1, by omega, by go_num, below2 hbw (below_drewN _ _), hres⟩
          case measure => simp [intOf]; omega
        · have hres : Hid (r = false) := Lib.hid (by
            rw [← hr.out]
            rw [beq_eq_false_iff_ne]
            intro e
            apply hyz
            rw [hy.out, hz.out]
            simp only [e])
          go_wp2
          go_quiet (fail)
          go_wp2
          go_ret
          exact ⟨retbf hres.out, below2 hbw (below_drewN _ _)⟩
      · have hres : Hid (r = true) := Lib.hid (by
          rw [← hr.out, beq_iff_eq]
          apply List.ext_getElem?
          intro j
          by_cases hj : j < k
          · exact heq.out j hj
          · rw [List.getElem?_eq_none (by have := HLA.out; omega), List.getElem?_eq_none (by have := HLB.out; omega)])
        go_wp2
        go_ret
        exact ⟨retb hres.out, hbw⟩
  · have hres : Hid (r = false) := Lib.hid (by
      rw [← hr.out, beq_eq_false_iff_ne]
      intro e
      apply hn
      rw [← HLA.out, ← HLB.out, e])
    go_enter Try.func35, Try.ntmps35
    go_wp2
    go_ret
    exact ⟨retbf hres.out, Below.refl _ _⟩
end Go.Proofs.Ytljdiaokjocfpaa.Ls

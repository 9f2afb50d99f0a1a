/- wheel: the law WheelOnce. -/
import Derived.Test.YtbifmdepkbgnjaaWhH
import Derived.Test.YtbifmdepkbgnjaaWhK
import Derived.Deep.LoopGhost
namespace Go.Proofs.Ytbifmdepkbgnjaa.Wh
open Go.RowKit Go.Maps Go.Proofs.Ytbifmdepkbgnjaa.L Go.Proofs.Ytbifmdepkbgnjaa.R Go.Proofs.Ytbifmdepkbgnjaa.A Go.Proofs.Ytbifmdepkbgnjaa.S Go.Proofs.Ytbifmdepkbgnjaa.T Go.Proofs.Ytbifmdepkbgnjaa.C Go.Proofs.Ytbifmdepkbgnjaa.G Go.Proofs.Ytbifmdepkbgnjaa.E Go.Proofs.Ytbifmdepkbgnjaa.F
set_option linter.unusedVariables false
set_option linter.unusedSimpArgs false

section
variable {ops : Array Oper} {rest : List Oper} {o : Oper} {a : Act} {Q : Exit → Act → World → Prop} {w : World} {b n : Nat} {M : List Pr}
theorem wpList_len_map (hg : o.guard = none) (m : Operand) (hop : o.op = Op.call { callee := Callee.builtin Builtin.len, args := #[m], argTypes := #[MT] }) (h : KMap w b n M) (hm : a.eval m = .map (some b)) (hK : wpList Try.prog ops Q rest (a.put o.dst (.int .i64 (M.length : Nat))) w) : wpList Try.prog ops Q (o :: rest) a w := by
  obtain ⟨D, h, -, hsz⟩ := h
  refine wpList_len_own w hg m MT hop KT IT m_info.1 _ b n D hm h ?_
  rw [hsz]
  exact hK
theorem wpList_del_map (hg : o.guard = none) (m x : Operand) (hop : o.op = Op.call { callee := Callee.builtin Builtin.delete, args := #[m, x], argTypes := #[MT, KT] }) (h : KMap w b n M) (hu : uq M) (y : Nat) (hy : y < 4611686018427387904) (hm : a.eval m = .map (some b)) (hx : a.eval x = kv y)
    (hK : ∀ w', KMap w' b n (off y M) → Keep [b] w w' → wpList Try.prog ops Q rest (a.put o.dst (.tuple #[])) w') : wpList Try.prog ops Q (o :: rest) a w := by
  refine wpList_plain hg fun K' hK' => ?_
  obtain ⟨w', hrun, r1, r2⟩ := m_del h hu y hy o.type
  unfold Oper.wp
  simp [execOp, hop, resolve, invoke, builtin, hm, hx, hrun, Result.andThen]
  exact hK' _ _ (hK w' r1 r2)
end
/-- the law's wheel, with timers M, and its map, with pairs N. -/
structure On (w W : World) (b : Nat) (now : Int) (mb : Nat) (v : Value) (n : Nat) (M N : List Pr) : Prop where
  wh : Wh W b now v (M.map tmOf)
  mp : KMap W mb n N
  bel : Below w.heap.size w W
  hb : w.heap.size ≤ b ∧ w.heap.size ≤ mb
  row : ∀ k, v.ownBlock = some k → w.heap.size ≤ k ∧ k ≠ mb
  ne : b ≠ mb
section
variable {w W W' : World} {b mb n n' : Nat} {now now' : Int} {v v' : Value} {M N M' N' : List Pr}
theorem On.below (h : On w W b now mb v n M N) (hb : Below W.heap.size W W') : On w W' b now mb v n M N :=
  ⟨h.wh.below hb, h.mp.keep (S := []) (.of_below hb) (by simp), h.bel.trans (hb.mono h.bel.size), h.hb, h.row, h.ne⟩
theorem On.chg (h : On w W b now mb v n M N) (hc : Chg b v W v' W') (hw : Wh W' b now' v' (M'.map tmOf)) : On w W' b now' mb v' n M' N := by
  have hmb : mb ∉ (b :: v.ownBlock.toList : List Nat) := fun hm => by
    rcases List.mem_cons.1 hm with e | e
    · exact h.ne e.symm
    · exact (h.row mb (by simpa using e)).2 rfl
  refine ⟨hw, h.mp.keep hc.keep hmb, h.bel.trans (hc.keep.below h.bel.size fun x hx => ?_), h.hb, fun k hk => ?_, h.ne⟩
  · rcases List.mem_cons.1 hx with e | e
    · have := h.hb.1; omega
    · exact (h.row x (by simpa using e)).1
  · rcases hc.row with e | e
    · exact h.row k (e ▸ hk)
    · have h1 := e k hk
      have h2 := h.mp.lt
      have h3 := h.bel.size
      exact ⟨by omega, by omega⟩
theorem On.map (h : On w W b now mb v n M N) (hk : Keep [mb] W W') (hm : KMap W' mb n' N') : On w W' b now mb v n' M N' := by
  have hbm := h.ne
  exact ⟨h.wh.keep hk (by simpa using hbm) (fun k hk => by have := (h.row k hk).2; simpa using this), hm, h.bel.trans (hk.below h.bel.size (by have := h.hb.2; simpa using this)), h.hb, h.row, h.ne⟩
theorem On.kb (h : On w W b now mb v n M N) (hc : Chg b v W v' W') {x : Nat} {k : Ky} (hx : KB W x k) (h1 : x ≠ b) (h2 : v.ownBlock ≠ some x) : KB W' x k :=
  hx.keep hc.keep fun hm => by
    rcases List.mem_cons.1 hm with e | e
    · exact h1 e
    · exact h2 (by simpa using e)
theorem On.set (h : On w W b 0 mb v n M N) {i d : Nat} (hi : there M i = false) (hl : M.length < 256) (hd : 1 ≤ d ∧ d ≤ 40) :
    Calls Try.prog 9 #[.pointer (some ⟨b, 0, none⟩), kv i, .int .i64 d] W fun e w' => e = .returned (.int .i64 0) ∧ ∃ v', On w w' b 0 mb v' n (M ++ [(i, d)]) N ∧ Chg b v W v' w' := by
  refine (set_ok b 0 v _ (kk i) d W h.wh (by simp; omega) (by omega) (by omega) (.inr (by simpa using hl))).mono ?_
  rintro e w' ⟨rfl, v', hw, hc⟩
  refine ⟨rfl, v', h.chg hc ?_, hc⟩
  rw [drop_map, off_self hi] at hw
  have e : mkT (kk i) (0 + (d : Int)) = tmOf (i, d) := by unfold mkT kk tmOf; simp
  rw [e] at hw
  rw [List.map_append]
  exact hw
theorem On.stop (h : On w W b now mb v n M N) (hu : uq M) (hl : M.length ≤ 256) {i x : Nat} (hx : KB W x (kk i)) (h1 : x ≠ b) (h2 : v.ownBlock ≠ some x) :
    Calls Try.prog 10 #[.pointer (some ⟨b, 0, none⟩), .slice (some ⟨x, 0, none⟩) 1 1] W fun e w' => e = .returned (.int .i64 (if there M i then 1 else 0)) ∧ ∃ v', On w w' b now mb v' n (off i M) N ∧ Chg b v W v' w' := by
  obtain ⟨k0, k1, k2, k3, k4, k5⟩ := hx.cells
  refine (stop_any b now v _ (some ⟨x, 0, none⟩) 1 1 [kk i] W h.wh (by simp; omega) ⟨rfl, by omega, by simp [encK], fun _ => ⟨x, 0, rfl, fun p hp j hj => ?_⟩⟩ (fun _ o ho => by cases ho; exact h2)).mono ?_
  · obtain rfl : p = 0 := by omega
    match j, hj with
    | 0, _ => exact k0
    | 1, _ => exact k1
    | 2, _ => exact k2
    | 3, _ => exact k3
    | 4, _ => exact k4
    | 5, _ => exact k5
  · rintro e w' ⟨rfl, v', hw, hc⟩
    rw [drop_map] at hw
    refine ⟨?_, v', h.chg hc hw, hc⟩
    rw [drop_map, List.length_map, List.length_map, off_len hu]
end
theorem nodup_uq {M : List Pr} (h : uq M) : M.Nodup := List.Pairwise.imp (fun hne e => hne (by rw [e])) h
/-- what the map says of the next one that is due. -/
theorem val_due {M : List Pr} (hu : uq M) (d j : Nat) {p : Pr} (hj : (M.filter fun p => p.2 == d)[j]? = some p) : p ∈ M ∧ p.2 = d ∧ val (undone M ((M.filter fun p => p.2 == d).take j)) p.1 = d := by
  obtain ⟨hlt, he⟩ := List.getElem?_eq_some_iff.1 hj
  have hm : p ∈ M.filter fun p => p.2 == d := he ▸ List.getElem_mem hlt
  obtain ⟨h1, h2⟩ := List.mem_filter.1 hm
  have hd : p.2 = d := by simpa using h2
  have hnd := nodup_uq (uq_filter (f := fun p => p.2 == d) hu)
  have hno : p ∉ (M.filter fun p => p.2 == d).take j := fun hx => by
    obtain ⟨i, hi, hie⟩ := List.getElem_of_mem hx
    rw [List.length_take] at hi
    rw [List.getElem_take, ← he] at hie
    exact (List.pairwise_iff_getElem.1 hnd) i j (by omega) hlt (by omega) hie
  have hin : p ∈ undone M ((M.filter fun p => p.2 == d).take j) := List.mem_filter.2 ⟨h1, by simpa using hno⟩
  refine ⟨h1, hd, ?_⟩
  have h9 : uq (undone M ((M.filter fun p => p.2 == d).take j)) := uq_filter hu
  rw [val_mem h9 hin, hd]
theorem undone_next {M : List Pr} (hu : uq M) (d j : Nat) {p : Pr} (hj : (M.filter fun p => p.2 == d)[j]? = some p) : off p.1 (undone M ((M.filter fun p => p.2 == d).take j)) = undone M ((M.filter fun p => p.2 == d).take (j + 1)) := by
  rw [undone_step hu _ (val_due hu d j hj).1, List.take_add_one, hj]
  rfl
theorem kk_cells (i : Nat) : encK (kk i) = [.int .i64 i, .int .i64 0, .int .i64 0, .int .i64 0, .int .i64 0, .int .i64 0] := rfl
theorem kb_made (w : World) (i : Nat) : KB (w.alloc (.cells #[.int .i64 i, .int .i64 0, .int .i64 0, .int .i64 0, .int .i64 0, .int .i64 0] KT)) w.heap.size (kk i) := heap_alloc_new _ _
theorem kb_cells {w : World} {x i : Nat} (h : KB w x (kk i)) : w.cell? ⟨x, 0, none⟩ = some (.int .i64 i) ∧ w.cell? ⟨x, 1, none⟩ = some (.int .i64 0) ∧ w.cell? ⟨x, 2, none⟩ = some (.int .i64 0) ∧ w.cell? ⟨x, 3, none⟩ = some (.int .i64 0) ∧ w.cell? ⟨x, 4, none⟩ = some (.int .i64 0) ∧ w.cell? ⟨x, 5, none⟩ = some (.int .i64 0) := h.cells
theorem u8_at {w : World} {A : Option Addr} {n : Nat} {xs : List Nat} (hr : Rd w A n (xs.map fun x : Nat => Value.int .u8 (x : Int))) (hx : ∀ x ∈ xs, x < 256) {k : Nat} (hk : k < n) : ∃ ab ao x, A = some ⟨ab, ao, none⟩ ∧ x < 256 ∧ w.cell? ⟨ab, ao + k, none⟩ = some (.int .u8 (x : Nat)) := by
  obtain ⟨ab, ao, hA, hc⟩ := hr.2.2 (by omega)
  have hl : xs.length = n := by have := hr.len; simpa using this
  have hkl : k < xs.length := by omega
  have h1 := hc k hk
  rw [List.getElem?_map, List.getElem?_eq_getElem hkl] at h1
  exact ⟨ab, ao, xs[k], hA, hx _ (List.getElem_mem hkl), h1⟩
set_option maxHeartbeats 16000000 in
set_option maxRecDepth 100000 in
theorem once_walk (w : World) (A1 : Option Addr) (n1 c1 : Nat) (xs : List Nat) (hr1 : Rd w A1 n1 (xs.map fun x : Nat => Value.int .u8 (x : Int))) (hx1 : ∀ x ∈ xs, x < 256) (A2 : Option Addr) (n2 c2 : Nat) (ys : List Nat) (hr2 : Rd w A2 n2 (ys.map fun x : Nat => Value.int .u8 (x : Int))) (hx2 : ∀ x ∈ ys, x < 256) :
    Calls Try.prog 3 #[.slice A1 n1 c1, .slice A2 n2 c2] w fun e w' => e = .returned (.bool true) ∧ Below w.heap.size w w' := by
  have hn9 := hr1.2.1
  have hm9 := hr2.2.1
  have HA := Lib.hid (awake_any w)
  have HAT1 : Hid (∀ W, Below w.heap.size w W → ∀ k, k < n1 → ∃ ab ao x, A1 = some ⟨ab, ao, none⟩ ∧ x < 256 ∧ W.cell? ⟨ab, ao + k, none⟩ = some (.int .u8 (x : Nat))) := Lib.hid fun W hb k hk => u8_at (hr1.below hb) hx1 hk
  have HAT2 : Hid (∀ W, Below w.heap.size w W → ∀ k, k < n2 → ∃ ab ao x, A2 = some ⟨ab, ao, none⟩ ∧ x < 256 ∧ W.cell? ⟨ab, ao + k, none⟩ = some (.int .u8 (x : Nat))) := Lib.hid fun W hb k hk => u8_at (hr2.below hb) hx2 hk
  clear hr1 hr2 hx1 hx2
  go_enter Try.func3, Try.ntmps3
  go_wp2_with fail
  refine HA.out.mono ?_
  rintro e w1 ⟨rfl, hb1⟩
  have HB1 := Lib.hid hb1
  clear hb1
  by_cases h1 : 100 < n1
  · have d1 : decide ((100 : Int) < (n1 : Int)) = true := by simp; omega
    have d2 : decide (100 < n1) = true := by simp; omega
    go_wp2_with fail
    go_ret
    exact ⟨rfl, HB1.out⟩
  have d1 : decide ((100 : Int) < (n1 : Int)) = false := by simp; omega
  have d2 : decide (100 < n1) = false := by simp; omega
  by_cases h2 : 100 < n2
  · have d3 : decide ((100 : Int) < (n2 : Int)) = true := by simp; omega
    have d4 : decide (100 < n2) = true := by simp; omega
    go_wp2_with fail
    go_ret
    exact ⟨rfl, HB1.out⟩
  have d3 : decide ((100 : Int) < (n2 : Int)) = false := by simp; omega
  have d4 : decide (100 < n2) = false := by simp; omega
  have HNW := Lib.hid (new_any w1)
  obtain ⟨b, hb⟩ : ∃ b, Hid (w1.heap.size = b) := ⟨_, Lib.hid rfl⟩
  rw [hb.out] at HNW
  have hmk := @run_makeMap Try.prog
  go_wp2_with fail
  refine HNW.out.mono ?_
  rintro e w2 ⟨rfl, hw2, hb2⟩
  obtain ⟨mb, hmb⟩ : ∃ mb, Hid (w2.heap.size = mb) := ⟨_, Lib.hid rfl⟩
  obtain ⟨w3, hw3⟩ : ∃ w3, Hid (w2.alloc (.map #[] 0) = w3) := ⟨_, Lib.hid rfl⟩
  have HON : Hid (On w w3 b 0 mb (.slice none 0 0) 0 [] []) := Lib.hid (by
    have h3 := hw2.below (below_alloc w2 (.map #[] 0))
    have h4 := m_made w2
    have hs := HB1.out.size
    have hl := hw2.lt
    rw [hw3.out] at h3 h4
    rw [hmb.out] at h4
    have hbe := hb.out
    have hme := hmb.out
    refine ⟨h3, h4, ?_, by omega, (fun k hk => by cases hk), by omega⟩
    rw [← hw3.out]
    exact (HB1.out.trans (hb2.mono (by omega))).trans ((below_alloc _ _).mono (by omega)))
  clear hw2 hb2 d1 d2 d3 d4
  go_wp2_with fail
  rw [hw3.out, hmb.out]
  clear hmk
  go_loopw [33] (fun i wr => ∃ (k n : Nat) (v : Value) (M : List Pr), k ≤ n1 ∧ n ≤ k ∧ i = .int .i64 k ∧ Hid (On w wr b 0 mb v n M M ∧ uq M ∧ M.length ≤ k ∧ ∀ p ∈ M, p.1 < k ∧ 1 ≤ p.2 ∧ p.2 ≤ 40)) (fun i _ => n1 - (intOf i).toNat)
  case atStart => exact ⟨0, 0, _, [], by omega, by omega, rfl, Lib.hid ⟨HON.out, List.Pairwise.nil, by simp, by simp⟩⟩
  case round =>
    obtain ⟨k, n, v, M, hk, hnk, rfl, HI⟩ := hrel
    by_cases hlt : k < n1
    · obtain ⟨ab, ao, x, hA, hx256, hcell⟩ := HAT1.out wr HI.out.1.bel k hlt
      subst hA
      obtain ⟨r, hr⟩ : ∃ r : Nat, (x : Int) % 40 = (r : Int) := ⟨x % 40, by omega⟩
      obtain ⟨d, hd⟩ : ∃ d : Nat, (1 : Int) + (r : Int) = (d : Int) := ⟨1 + r, by omega⟩
      have hd40 : 1 ≤ d ∧ d ≤ 40 := by omega
      have hnew : there M k = false := by
        unfold there
        rw [List.any_eq_false]
        intro p hp
        have := (HI.out.2.2.2 p hp).1
        simp; omega
      obtain ⟨kb, hkb⟩ : ∃ kb, Hid (wr.heap.size = kb) := ⟨_, Lib.hid rfl⟩
      obtain ⟨W, hW⟩ : ∃ W, Hid (wr.alloc (.cells #[.int .i64 k, .int .i64 0, .int .i64 0, .int .i64 0, .int .i64 0, .int .i64 0] KT) = W) := ⟨_, Lib.hid rfl⟩
      have hkbm : KB W kb (kk k) := by rw [← hW.out, ← hkb.out]; exact kb_made wr k
      have hONW : On w W b 0 mb v n M M := HI.out.1.below (by rw [← hW.out]; exact below_alloc _ _)
      have hS := hONW.set hnew (by have := HI.out.2.2.1; omega) hd40
      unfold kv at hS
      have HS := Lib.hid hS
      have HOW := Lib.hid hONW
      have HKN : Hid (kb ≠ b ∧ v.ownBlock ≠ some kb) := Lib.hid (by
        have h1 := HI.out.1.wh.lt
        have h2 := hkb.out
        exact ⟨by omega, fun e => by have := (HI.out.1.wh.ne _ e).2; omega⟩)
      have HKB := Lib.hid hkbm
      obtain ⟨k0, k1, k2, k3, k4, k5⟩ := kb_cells hkbm
      have HNEW := Lib.hid (And.intro hnew hd40)
      have HD := Lib.hid hd
      have hk62 : k < 4611686018427387904 := by omega
      have hn6 : n < 1000000 := by omega
      clear hkbm hONW hS hnew
      go_wp2_with (rw [hW.out, hkb.out])
      refine HS.out.mono ?_
      rintro e w5 ⟨rfl, v5, hon, hc⟩
      have hkb5 := HOW.out.kb hc HKB.out HKN.out.1 HKN.out.2
      clear k0 k1 k2 k3 k4 k5
      obtain ⟨k0, k1, k2, k3, k4, k5⟩ := kb_cells hkb5
      obtain ⟨w6, hput, hm6, hk6⟩ := m_put hon.mp hn6 k d hk62 (by omega) HNEW.out.1
      unfold kv at hput
      have HF := Lib.hid (hon.map hk6 hm6)
      clear hon hc hkb5 hm6 hk6
      go_wp2_with fail
      go_roundw
      case rel => exact ⟨k + 1, n + 1, v5, M ++ [(k, d)], by omega, by omega, by go_num, Lib.hid ⟨HF.out, uq_snoc HI.out.2.1 HNEW.out.1, by rw [List.length_append, List.length_singleton]; have := HI.out.2.2.1; omega, fun p hp => by
        rcases List.mem_append.1 hp with hp | hp
        · have := HI.out.2.2.2 p hp; omega
        · simp at hp; subst hp; have := HNEW.out.2; dsimp only; omega⟩⟩
      case measure => simp [intOf]; omega
    · obtain rfl : k = n1 := by omega
      have HJ : Hid (On w wr b 0 mb v n M M ∧ uq M ∧ M.length ≤ 100 ∧ ∀ p ∈ M, 1 ≤ p.2 ∧ p.2 ≤ 40 ∧ p.1 < 1000) := Lib.hid ⟨HI.out.1, HI.out.2.1, by have := HI.out.2.2.1; omega, fun p hp => by have := HI.out.2.2.2 p hp; omega⟩
      have hn100 : n ≤ 100 := by omega
      clear HI HNW HON
      go_wp2_with fail
      go_loopw [57] (fun i wr => ∃ (k : Nat) (v : Value) (M : List Pr), k ≤ n2 ∧ i = .int .i64 k ∧ Hid (On w wr b 0 mb v n M M ∧ uq M ∧ M.length ≤ 100 ∧ ∀ p ∈ M, 1 ≤ p.2 ∧ p.2 ≤ 40 ∧ p.1 < 1000)) (fun i _ => n2 - (intOf i).toNat)
      case atStart => exact ⟨0, _, _, by omega, rfl, HJ⟩
      case round =>
        obtain ⟨k, v, M, hk, rfl, HI⟩ := hrel
        by_cases hlt : k < n2
        · obtain ⟨ab, ao, x, hA, hx256, hcell⟩ := HAT2.out wr HI.out.1.bel k hlt
          subst hA
          obtain ⟨kb, hkb⟩ : ∃ kb, Hid (wr.heap.size = kb) := ⟨_, Lib.hid rfl⟩
          obtain ⟨W, hW⟩ : ∃ W, Hid (wr.alloc (.cells #[.int .i64 x, .int .i64 0, .int .i64 0, .int .i64 0, .int .i64 0, .int .i64 0] KT) = W) := ⟨_, Lib.hid rfl⟩
          have hkbm : KB W kb (kk x) := by rw [← hW.out, ← hkb.out]; exact kb_made wr x
          have hONW : On w W b 0 mb v n M M := HI.out.1.below (by rw [← hW.out]; exact below_alloc _ _)
          have hx62 : x < 4611686018427387904 := by omega
          have hlk := m_look_ok hONW.mp x hx62
          obtain ⟨w9, hw9⟩ : ∃ w9, Hid (W.heap.size = w9) := ⟨_, Lib.hid rfl⟩
          obtain ⟨W2, hW2⟩ : ∃ W2, Hid (W.alloc (.cells #[.int .i64 x, .int .i64 0, .int .i64 0, .int .i64 0, .int .i64 0, .int .i64 0] KT) = W2) := ⟨_, Lib.hid rfl⟩
          have hb2 : Below W.heap.size W W2 := by rw [← hW2.out]; exact below_alloc _ _
          have hkb9 : KB W2 w9 (kk x) := by rw [← hW2.out, ← hw9.out]; exact kb_made W x
          have hON2 := hONW.below hb2
          have hwl := hONW.wh.lt
          have hwn := hONW.wh.ne
          have hS := hON2.stop HI.out.2.1 (by have := HI.out.2.2.1; omega) hkb9 (by have := hw9.out; omega) (fun e => by have := (hwn _ e).2; have := hw9.out; omega)
          have hU := HI.out.2.1
          obtain ⟨tv, htv⟩ : ∃ tv, val M x = tv := ⟨_, rfl⟩
          obtain ⟨th, hth⟩ : ∃ th, there M x = th := ⟨_, rfl⟩
          rw [htv, hth] at hlk
          rw [hth] at hS
          unfold kv at hlk
          have HKN : Hid (kb ≠ b ∧ v.ownBlock ≠ some kb) := Lib.hid (by
            have h1 := HI.out.1.wh.lt
            have h2 := hkb.out
            exact ⟨by omega, fun e => by have := (HI.out.1.wh.ne _ e).2; omega⟩)
          have HKB := Lib.hid (hkbm.below hb2)
          have HO2 := Lib.hid hON2
          have HU := Lib.hid hU
          obtain ⟨k0, k1, k2, k3, k4, k5⟩ := kb_cells hkbm
          have HREL : Hid (∀ p ∈ off x M, 1 ≤ p.2 ∧ p.2 ≤ 40 ∧ p.1 < 1000) := Lib.hid fun p hp => HI.out.2.2.2 p (List.mem_filter.1 hp).1
          have HLEN : Hid ((off x M).length ≤ 100) := Lib.hid (by have h1 : (off x M).length ≤ M.length := List.length_filter_le _ _; have := HI.out.2.2.1; omega)
          clear hkbm hONW hb2 hkb9 hON2 hwl hwn hU htv hth
          cases th with
          | true =>
            simp only [if_true] at hS
            have HS := Lib.hid hS
            clear hS
            go_wp2_with (first | (rw [hW2.out, hw9.out]) | (rw [hW.out, hkb.out]))
            refine HS.out.mono ?_
            rintro e w5 ⟨rfl, v5, hon, hc⟩
            have hkb5 := HO2.out.kb hc HKB.out HKN.out.1 HKN.out.2
            clear k0 k1 k2 k3 k4 k5
            obtain ⟨k0, k1, k2, k3, k4, k5⟩ := kb_cells hkb5
            have HON5 := Lib.hid hon
            clear hon hc hkb5
            go_wp2_with (at_delete; refine wpList_del_map rfl (.tmp 77) (.tmp 78) rfl HON5.out.mp HU.out x hx62 rfl rfl ?_; intro w6 hm6 hk6; have HF := Lib.hid (HON5.out.map hk6 hm6); clear hm6 hk6)
            go_roundw
            case rel => exact ⟨k + 1, v5, off x M, by omega, by go_num, Lib.hid ⟨HF.out, uq_off HU.out, HLEN.out, HREL.out⟩⟩
            case measure => simp [intOf]; omega
          | false =>
            simp only [Bool.false_eq_true, if_false] at hS
            have HS := Lib.hid hS
            clear hS
            go_wp2_with (first | (rw [hW2.out, hw9.out]) | (rw [hW.out, hkb.out]))
            refine HS.out.mono ?_
            rintro e w5 ⟨rfl, v5, hon, hc⟩
            have hkb5 := HO2.out.kb hc HKB.out HKN.out.1 HKN.out.2
            clear k0 k1 k2 k3 k4 k5
            obtain ⟨k0, k1, k2, k3, k4, k5⟩ := kb_cells hkb5
            have HON5 := Lib.hid hon
            clear hon hc hkb5
            go_wp2_with (at_delete; refine wpList_del_map rfl (.tmp 77) (.tmp 78) rfl HON5.out.mp HU.out x hx62 rfl rfl ?_; intro w6 hm6 hk6; have HF := Lib.hid (HON5.out.map hk6 hm6); clear hm6 hk6)
            go_roundw
            case rel => exact ⟨k + 1, v5, off x M, by omega, by go_num, Lib.hid ⟨HF.out, uq_off HU.out, HLEN.out, HREL.out⟩⟩
            case measure => simp [intOf]; omega
        · obtain rfl : k = n2 := by omega
          have HJ : Hid (On w wr b 0 mb v n M M ∧ uq M ∧ M.length ≤ 100 ∧ (∀ p ∈ M, 0 + 1 ≤ p.2 ∧ p.2 ≤ 40 ∧ p.1 < 1000) ∧ (0 < 0 → M = [] → v = .slice none 0 0)) := Lib.hid ⟨HI.out.1, HI.out.2.1, HI.out.2.2.1, fun p hp => by have := HI.out.2.2.2 p hp; omega, fun h => absurd h (by omega)⟩
          clear HI
          go_wp2_with fail
          go_loopw [16] (fun i wr => ∃ (s : Nat) (v : Value) (M : List Pr), s ≤ 41 ∧ i = .int .i64 ((s : Int) + 1) ∧ Hid (On w wr b s mb v n M M ∧ uq M ∧ M.length ≤ 100 ∧ (∀ p ∈ M, s + 1 ≤ p.2 ∧ p.2 ≤ 40 ∧ p.1 < 1000) ∧ (0 < s → M = [] → v = .slice none 0 0))) (fun i _ => 50 - (intOf i).toNat)
          case atStart => exact ⟨0, _, _, by omega, rfl, HJ⟩
          case round =>
            obtain ⟨s, v, M, hs, rfl, HI⟩ := hrel
            by_cases hlt : s < 41
            · have dd : decide ((s : Int) + 1 ≤ 41) = true := by simp; omega
              have HT := Lib.hid (tick_any b s v _ wr HI.out.1.wh (by rw [List.length_map]; have := HI.out.2.2.1; omega) (by omega))
              go_wp2_with fail
              refine HT.out.mono ?_
              rintro e w5 ⟨u, v', B2, rfl, hu, hw, hc, hB1, hB2, hB3, hnil⟩
              have hcs : (s : Int) + 1 = ((s + 1 : Nat) : Int) := by omega
              rw [hcs, due_map] at hu
              rw [hcs, rest_map] at hw hnil
              obtain ⟨Dl, hDl⟩ : ∃ Dl, M.filter (fun p => p.2 == s + 1) = Dl := ⟨_, rfl⟩
              obtain ⟨M', hM'⟩ : ∃ M', M.filter (fun p => !(p.2 == s + 1)) = M' := ⟨_, rfl⟩
              obtain ⟨nd, hnd⟩ : ∃ nd, Dl.length = nd := ⟨_, rfl⟩
              rw [hDl, List.length_map, hnd] at hu
              rw [hM'] at hw hnil
              obtain ⟨A, c, hue, hrd, hAb, -⟩ := own_rdE hu encK_len (by simp [hnd])
              have hAm : ∀ o, A = some o → o.block ≠ mb := fun o ho e => by
                have h1 := hAb o ho
                have h2 := HI.out.1.mp.lt
                omega
              have HON5 : Hid (On w w5 b ((s + 1 : Nat) : Int) mb v' n M' M) := Lib.hid (HI.out.1.chg hc hw)
              have HRD := Lib.hid hrd
              have HAM := Lib.hid hAm
              have HM := Lib.hid (And.intro hDl (And.intro hM' hnd))
              have HNIL : Hid (M' = [] → v' = .slice none 0 0) := Lib.hid fun e => hnil (by rw [e]; rfl)
              subst hue
              clear hu hw hc hB1 hB2 hB3 hnil hDl hM' hnd hrd hAb hAm hcs
              have hndb := HRD.out.2.1
              go_wp2_with fail
              go_loopg [87] nd (fun gk jv wr => ∃ j : Nat, gk = nd - j ∧ jv = .int .i64 j ∧ j ≤ nd ∧ Hid (On w wr b ((s + 1 : Nat) : Int) mb v' n M' (undone M (Dl.take j)) ∧ RdE wr A nd 6 (((Dl.map tmOf).map keyOf).map encK)))
              case atStart => exact ⟨0, by omega, rfl, by omega, Lib.hid ⟨by rw [List.take_zero, undone_nil]; exact HON5.out, HRD.out⟩⟩
              case round =>
                obtain ⟨j, rfl, rfl, hj, HJ⟩ := hrel
                by_cases hjn : j < nd
                · obtain ⟨p, hp⟩ : ∃ p, Dl[j]? = some p := ⟨_, List.getElem?_eq_getElem (by have := HM.out.2.2; omega)⟩
                  have hp2 : (M.filter fun p => p.2 == s + 1)[j]? = some p := by rw [HM.out.1]; exact hp
                  obtain ⟨hpm, hpd, hval⟩ := val_due HI.out.2.1 (s + 1) j hp2
                  have hnext := undone_next HI.out.2.1 (s + 1) j hp2
                  rw [HM.out.1] at hval hnext
                  have hp1 : p.1 < 1000 := (HI.out.2.2.2.1 p hpm).2.2
                  obtain ⟨pk, pd⟩ := p
                  dsimp only at hpd hval hnext hp1
                  subst hpd
                  obtain ⟨ab, ao, hA, e0, e1, e2, e3, e4, e5⟩ := key_at HJ.out.2 j hjn (by simp; have := HM.out.2.2; omega) (kk pk) (by
                    have h1 := (List.getElem?_eq_some_iff.1 hp).2
                    simp only [List.getElem_map, h1]
                    rfl)
                  subst hA
                  dsimp only [kk] at e0 e1 e2 e3 e4 e5
                  obtain ⟨kb, hkb⟩ : ∃ kb, Hid (wr.heap.size = kb) := ⟨_, Lib.hid rfl⟩
                  obtain ⟨W, hW⟩ : ∃ W, Hid (wr.alloc (.cells #[.int .i64 pk, .int .i64 0, .int .i64 0, .int .i64 0, .int .i64 0, .int .i64 0] KT) = W) := ⟨_, Lib.hid rfl⟩
                  have hbW : Below wr.heap.size wr W := by rw [← hW.out]; exact below_alloc _ _
                  have hkbm : KB W kb (kk pk) := by rw [← hW.out, ← hkb.out]; exact kb_made wr pk
                  have hONW := HJ.out.1.below hbW
                  have hx62 : pk < 4611686018427387904 := by omega
                  have hlk := m_look hONW.mp pk hx62
                  rw [hval] at hlk
                  unfold kv at hlk
                  obtain ⟨k0, k1, k2, k3, k4, k5⟩ := kb_cells hkbm
                  have HOW := Lib.hid hONW
                  have HRW := Lib.hid (HJ.out.2.below hbW)
                  have HNX := Lib.hid hnext
                  have HUQ : Hid (uq (undone M (Dl.take j))) := Lib.hid (uq_filter HI.out.2.1)
                  have hcs2 : ((s + 1 : Nat) : Int) = (s : Int) + 1 := by omega
                  rw [hcs2] at hlk
                  clear hbW hkbm hONW hnext hval hp hp2 hpm hcs2
                  go_wp2_with (first | (rw [hW.out, hkb.out]) | (at_delete; refine wpList_del_map rfl (.tmp 96) (.tmp 97) rfl HOW.out.mp HUQ.out pk hx62 rfl rfl ?_; intro w7 hm7 hk7; have HF := Lib.hid (HOW.out.map hk7 hm7); have HRK := Lib.hid (HRW.out.keep hk7 (fun _ o ho => by have := HAM.out o ho; simpa using this)); clear hm7 hk7))
                  go_roundg (nd - (j + 1))
                  case measure => omega
                  case rel => exact ⟨j + 1, by omega, by go_num, by omega, Lib.hid ⟨by rw [← HNX.out]; exact HF.out, HRK.out⟩⟩
                · obtain rfl : j = nd := by omega
                  have HFI : Hid (On w wr b ((s + 1 : Nat) : Int) mb v' n M' M') := Lib.hid (by
                    have h1 := HJ.out.1
                    rw [List.take_of_length_le (by have := HM.out.2.2; omega)] at h1
                    have h2 := undone_all M (s + 1)
                    rw [HM.out.1, HM.out.2.1] at h2
                    rw [h2] at h1
                    exact h1)
                  go_wp2_with fail
                  go_roundw
                  case rel => exact ⟨s + 1, v', M', by omega, by go_num, Lib.hid ⟨HFI.out, by rw [← HM.out.2.1]; exact uq_filter HI.out.2.1, by rw [← HM.out.2.1]; exact Nat.le_trans (List.length_filter_le _ _) HI.out.2.2.1, fun p hp => by
                    rw [← HM.out.2.1] at hp
                    obtain ⟨h1, h2⟩ := List.mem_filter.1 hp
                    have h3 := HI.out.2.2.2.1 p h1
                    have h4 : ¬ p.2 = s + 1 := by simpa using h2
                    omega, fun _ => HNIL.out⟩⟩
                  case measure => simp [intOf]; omega
            · obtain rfl : s = 41 := by omega
              have dd : decide (((41 : Nat) : Int) + 1 ≤ 41) = false := by decide
              obtain rfl : M = [] := by
                cases M with
                | nil => rfl
                | cons p M => have := HI.out.2.2.2.1 p (by simp); omega
              obtain rfl : v = .slice none 0 0 := HI.out.2.2.2.2 (by omega) rfl
              have HK := Lib.hid (keysw_empty b _ wr HI.out.1.wh)
              have hbe := HI.out.1.bel
              have HBE := Lib.hid hbe
              have HMP := Lib.hid HI.out.1.mp
              clear hbe
              go_wp2_with (at_len; refine wpList_len_map rfl (.tmp 99) rfl HMP.out rfl ?_)
              refine HK.out.mono ?_
              rintro e w7 ⟨A7, c7, rfl, hb7⟩
              have HBF := Lib.hid (HBE.out.trans (hb7.mono HBE.out.size))
              clear hb7
              go_wp2_with fail
              go_ret
              exact ⟨rfl, HBF.out⟩
end Go.Proofs.Ytbifmdepkbgnjaa.Wh

/- item: are any two lists alike? -/
import Derived.BigRegion
import Derived.Test.YtfpocddpnoighaaMRu14
namespace Go.Proofs.Ytfpocddpnoighaa.It
open Go.RowKit Go.Proofs.Ytfpocddpnoighaa.L Go.Proofs.Ytfpocddpnoighaa.O Go.Proofs.Ytfpocddpnoighaa.A Go.Proofs.Ytfpocddpnoighaa.R Go.Proofs.Ytfpocddpnoighaa.S Go.Proofs.Ytfpocddpnoighaa.T Go.Proofs.Ytfpocddpnoighaa.E Go.Proofs.Ytfpocddpnoighaa.Wr Go.Proofs.Ytfpocddpnoighaa.F
set_option linter.unusedVariables false
set_option linter.unusedSimpArgs false

deriving instance DecidableEq for Im
def imB (x y : Im) : Bool := x.c == y.c && (x.v == y.v && (x.l == y.l && (x.w == y.w && x.n == y.n)))
theorem imB_iff (x y : Im) : imB x y = decide (x = y) := by
  obtain ⟨a, b, c, d, e⟩ := x
  obtain ⟨a', b', c', d', e'⟩ := y
  by_cases h1 : a = a' <;> by_cases h2 : b = b' <;> by_cases h3 : c = c' <;> by_cases h4 : d = d' <;> by_cases h5 : e = e' <;> simp [imB, h1, h2, h3, h4, h5]
theorem it_any' (d : Nat) (x y : Im) (w : World) : (Op.equalIn (d + 4) 86 (.agg #[.int .i64 x.c, .int .i64 x.v, .int .i64 x.l, .bool x.w, .int .i64 x.n]) (.agg #[.int .i64 y.c, .int .i64 y.v, .int .i64 y.l, .bool y.w, .int .i64 y.n])).run Try.prog w = .ok (imB x y) w := by
  have hp : Try.prog.stoodInHeld 86 = false := by kernel_rfl
  have hf : Try.prog.underlying 86 = some (.struct (Try.prog.fieldsOf 86)) := by kernel_rfl
  rw [run_equalIn_agg w _ _ _ _ hf hp]
  clear hf hp
  obtain ⟨a, b, c, d, e⟩ := x
  obtain ⟨a', b', c', d', e'⟩ := y
  go_simp
  by_cases h1 : a = a' <;> by_cases h2 : b = b' <;> by_cases h3 : c = c' <;> by_cases h4 : d = d' <;> by_cases h5 : e = e' <;> simp [imB, h1, h2, h3, h4, h5]
theorem it_any (x y : Im) (w : World) : (Op.equalIn 10000 86 (.agg #[.int .i64 x.c, .int .i64 x.v, .int .i64 x.l, .bool x.w, .int .i64 x.n]) (.agg #[.int .i64 y.c, .int .i64 y.v, .int .i64 y.l, .bool y.w, .int .i64 y.n])).run Try.prog w = .ok (imB x y) w := it_any' 9996 x y w

theorem alike_no {α : Type} [DecidableEq α] {l l' : List α} {k : Nat} (h1 : k < l.length) (h2 : k < l'.length) (h : l[k] ≠ l'[k]) : decide (l = l') = false := by
  rw [decide_eq_false_iff_not]; rintro rfl; exact h rfl
theorem alike_len {α : Type} [DecidableEq α] {l l' : List α} (h : l.length ≠ l'.length) : decide (l = l') = false := by
  rw [decide_eq_false_iff_not]; rintro rfl; exact h rfl
theorem alike_yes {α : Type} [DecidableEq α] {l l' : List α} (hl : l.length = l'.length) (h : ∀ j (h1 : j < l.length) (h2 : j < l'.length), l[j] = l'[j]) : decide (l = l') = true := by
  rw [decide_eq_true_iff]; exact List.ext_getElem hl h

set_option maxHeartbeats 4000000 in
set_option maxRecDepth 100000 in
theorem same_itemsG (A A' : Option Addr) (n n' c c' : Nat) (l l' : List Im) (w : World) (h : Ims w A n l) (h' : Ims w A' n' l') (q : Bool) (hq' : decide (l = l') = q) : Calls Try.prog 50 #[.slice A n c, .slice A' n' c'] w fun e w' => e = .returned (.bool q) ∧ Below w.heap.size w w' := by
  have hn9 := h.rd.2.1
  have hn9' := h'.rd.2.1
  have H := Lib.hid h
  have H' := Lib.hid h'
  have HN := Lib.hid h.len
  have HN' := Lib.hid h'.len
  have hg := it_guard
  have hq := Lib.hid hq'
  clear h h' hq'
  go_enter Try.func50, Try.ntmps50
  by_cases hnn : n = n'
  case neg =>
    have e0 : Hid (q = false) := Lib.hid (by rw [← hq.out]; exact alike_len (by have := HN.out; have := HN'.out; omega))
    have d0 : decide ((n : Int) = (n' : Int)) = false := by simp; omega
    have d1 : decide (n = n') = false := by simp; omega
    go_wp2
    go_ret
    exact ⟨retbf e0.out, Below.refl _ _⟩
  subst hnn
  go_wp2
  go_loopw [5] (fun i wr => ∃ k : Nat, k ≤ n ∧ i = .int .i64 k ∧ Below w.heap.size w wr ∧ ∀ j (h1 : j < l.length) (h2 : j < l'.length), j < k → l[j] = l'[j]) (fun i _ => n - (intOf i).toNat)
  case atStart => exact ⟨0, by omega, rfl, Below.refl _ _, fun j _ _ h => absurd h (by omega)⟩
  case round =>
    obtain ⟨k, hk, rfl, hb, hall'⟩ := hrel
    have hall := Lib.hid hall'
    clear hall'
    by_cases hlt : k < n
    · have hkl : k < l.length := by have := HN.out; omega
      have hkl' : k < l'.length := by have := HN'.out; omega
      obtain ⟨x, hx⟩ : ∃ x, Hid (l[k] = x) := ⟨_, Lib.hid rfl⟩
      obtain ⟨y, hy⟩ : ∃ x, Hid (l'[k] = x) := ⟨_, Lib.hid rfl⟩
      obtain ⟨ab, ao, hAe, c0, c1, c2, c3, c4⟩ := (H.out.below hb).at k hlt hkl x hx.out
      obtain ⟨ab2, ao2, hAe2, d0, d1, d2, d3, d4⟩ := (H'.out.below hb).at k hlt hkl' y hy.out
      subst hAe
      subst hAe2
      have heq := it_any x y
      obtain ⟨bq, hbq⟩ : ∃ b, Hid (imB x y = b) := ⟨_, Lib.hid rfl⟩
      rw [hbq.out] at heq
      have HB := Lib.hid hb
      have HX : Hid (bq = decide (l[k] = l'[k])) := Lib.hid (by rw [← hbq.out, imB_iff, hx.out, hy.out])
      clear hb
      obtain ⟨xc, xv, xl, xw, xn⟩ := x
      obtain ⟨yc, yv, yl, yw, yn⟩ := y
      dsimp only at c0 c1 c2 c3 c4 d0 d1 d2 d3 d4 heq
      clear hx hy hbq
      cases bq
      · have e0 : Hid (q = false) := Lib.hid (by rw [← hq.out]; exact alike_no hkl hkl' (by have := HX.out; simpa using this))
        go_wp2_with fail
        go_quiet (fail)
        go_wp2
        go_ret
        exact ⟨retbf e0.out, below2 HB.out (below_drewN _ _)⟩
      · have e0 : Hid (l[k] = l'[k]) := Lib.hid (by have := HX.out; simpa using this)
        go_wp2_with fail
        go_quiet (fail)
        go_wp2
        go_roundw
        case rel =>
          refine ⟨k + 1, by omega, by go_num, below2 HB.out (below_drewN _ _), fun j h1 h2 hj => ?_⟩
          rcases Nat.lt_or_ge j k with h | h
          · exact hall.out j h1 h2 h
          · obtain rfl : j = k := by omega
            exact e0.out
        case measure => simp [intOf]; omega
    · have e0 : Hid (q = true) := Lib.hid (by rw [← hq.out]; exact alike_yes (by have := HN.out; have := HN'.out; omega) (fun j h1 h2 => hall.out j h1 h2 (by have := HN.out; omega)))
      go_wp2
      go_ret
      exact ⟨retb e0.out, hb⟩
set_option maxHeartbeats 4000000 in
set_option maxRecDepth 100000 in
theorem same_nodesG (A A' : Option Addr) (n n' c c' : Nat) (xs xs' : List Int) (w : World) (h : Rd w A n (xs.map (Value.int .i64))) (h' : Rd w A' n' (xs'.map (Value.int .i64))) (q : Bool) (hq' : decide (xs = xs') = q) : Calls Try.prog 51 #[.slice A n c, .slice A' n' c'] w fun e w' => e = .returned (.bool q) ∧ Below w.heap.size w w' := by
  have hn9 := h.2.1
  have hn9' := h'.2.1
  have H := Lib.hid h
  have H' := Lib.hid h'
  have HN : Hid (xs.length = n) := Lib.hid (by simpa using h.len)
  have HN' : Hid (xs'.length = n') := Lib.hid (by simpa using h'.len)
  have hq := Lib.hid hq'
  clear h h' hq'
  go_enter Try.func51, Try.ntmps51
  by_cases hnn : n = n'
  case neg =>
    have e0 : Hid (q = false) := Lib.hid (by rw [← hq.out]; exact alike_len (by have := HN.out; have := HN'.out; omega))
    have d0 : decide ((n : Int) = (n' : Int)) = false := by simp; omega
    have d1 : decide (n = n') = false := by simp; omega
    go_wp2
    go_ret
    exact ⟨retbf e0.out, Below.refl _ _⟩
  subst hnn
  go_wp2
  go_loopw [5] (fun i wr => ∃ k : Nat, k ≤ n ∧ i = .int .i64 k ∧ Below w.heap.size w wr ∧ ∀ j (h1 : j < xs.length) (h2 : j < xs'.length), j < k → xs[j] = xs'[j]) (fun i _ => n - (intOf i).toNat)
  case atStart => exact ⟨0, by omega, rfl, Below.refl _ _, fun j _ _ h => absurd h (by omega)⟩
  case round =>
    obtain ⟨k, hk, rfl, hb, hall'⟩ := hrel
    have hall := Lib.hid hall'
    clear hall'
    by_cases hlt : k < n
    · have hkl : k < xs.length := by have := HN.out; omega
      have hkl' : k < xs'.length := by have := HN'.out; omega
      obtain ⟨x, hx⟩ : ∃ x, Hid (xs[k] = x) := ⟨_, Lib.hid rfl⟩
      obtain ⟨y, hy⟩ : ∃ x, Hid (xs'[k] = x) := ⟨_, Lib.hid rfl⟩
      obtain ⟨ab, ao, hAe, hc⟩ := (H.out.below hb).2.2 (by omega)
      obtain ⟨ab2, ao2, hAe2, hd⟩ := (H'.out.below hb).2.2 (by omega)
      subst hAe
      subst hAe2
      have c0 := rd_at hc hlt hkl hx.out
      have d0 := rd_at hd hlt hkl' hy.out
      have HB := Lib.hid hb
      clear hb hc hd
      by_cases hxy : x = y
      · have e0 : Hid (xs[k] = xs'[k]) := Lib.hid (by rw [hx.out, hy.out]; exact hxy)
        clear hx hy
        subst hxy
        go_wp2_with fail
        go_quiet (fail)
        go_wp2
        go_roundw
        case rel =>
          refine ⟨k + 1, by omega, by go_num, below2 HB.out (below_drewN _ _), fun j h1 h2 hj => ?_⟩
          rcases Nat.lt_or_ge j k with h | h
          · exact hall.out j h1 h2 h
          · obtain rfl : j = k := by omega
            exact e0.out
        case measure => simp [intOf]; omega
      · have e0 : Hid (q = false) := Lib.hid (by rw [← hq.out]; exact alike_no hkl hkl' (by rw [hx.out, hy.out]; exact hxy))
        have dd : decide (x = y) = false := by simpa using hxy
        clear hx hy
        go_wp2_with fail
        go_quiet (fail)
        go_wp2
        go_ret
        exact ⟨retbf e0.out, below2 HB.out (below_drewN _ _)⟩
    · have e0 : Hid (q = true) := Lib.hid (by rw [← hq.out]; exact alike_yes (by have := HN.out; have := HN'.out; omega) (fun j h1 h2 => hall.out j h1 h2 (by have := HN.out; omega)))
      go_wp2
      go_ret
      exact ⟨retb e0.out, hb⟩
end Go.Proofs.Ytfpocddpnoighaa.It

/- record, in plain Lean: the fields of a kind, right records, their bytes, and back. -/
namespace Go.Proofs.Ytfpocddpnoighaa.Rc
open Go.RowKit Go.Proofs.Ytfpocddpnoighaa.L Go.Proofs.Ytfpocddpnoighaa.O Go.Proofs.Ytfpocddpnoighaa.A Go.Proofs.Ytfpocddpnoighaa.R Go.Proofs.Ytfpocddpnoighaa.S Go.Proofs.Ytfpocddpnoighaa.T Go.Proofs.Ytfpocddpnoighaa.E Go.Proofs.Ytfpocddpnoighaa.F Go.Proofs.Ytfpocddpnoighaa.It
open Go.Proofs.Ytfpocddpnoighaa.Wr hiding str str_size str_list
set_option linter.unusedVariables false
set_option linter.unusedSimpArgs false

structure Rc where
  k : Int
  t1 : Int
  t2 : Int
  t3 : Int
  l : List Im
  xs : List Int
  n1 : Int
  n2 : Int
  n3 : Int
  n4 : Int
  n5 : Int
  n6 : Int
  n7 : Int
  n8 : Int
  y : Bool
deriving DecidableEq
/-- the record of a kind without anything. -/
def zr (k : Int) : Rc := ⟨k, 0, 0, 0, [], [], 0, 0, 0, 0, 0, 0, 0, 0, false⟩
abbrev i64 (x : Int) : Prop := -9223372036854775808 ≤ x ∧ x ≤ 9223372036854775807
structure goodRc (x : Rc) : Prop where
  k : i64 x.k
  t1 : i64 x.t1
  t2 : i64 x.t2
  t3 : i64 x.t3
  l : ∀ z ∈ x.l, goodIm z
  xs : ∀ z ∈ x.xs, i64 z
  n1 : i64 x.n1
  n2 : i64 x.n2
  n3 : i64 x.n3
  n4 : i64 x.n4
  n5 : i64 x.n5
  n6 : i64 x.n6
  n7 : i64 x.n7
  n8 : i64 x.n8
/-- without the fields that the kind doesn't have: 1 Node, 2 Count, 3 Num, 4 Cell, 5 Status, 6 Hop, 7 Version, 8 Value. -/
def pl (x : Rc) : Rc :=
  if x.k = 1 then { zr x.k with n1 := x.n1, n2 := x.n2, n3 := x.n3 }
  else if x.k = 2 then { zr x.k with n3 := x.n3 }
  else if x.k = 3 then { zr x.k with n4 := x.n4, n5 := x.n5, n6 := x.n6, n1 := x.n1, n7 := x.n7, n8 := x.n8 }
  else if x.k = 4 then { zr x.k with t1 := x.t1, t2 := x.t2, t3 := x.t3, l := x.l, xs := x.xs }
  else if x.k = 5 then { zr x.k with t1 := x.t1, t2 := x.t2, t3 := x.t3, l := x.l, xs := x.xs }
  else if x.k = 6 then { zr x.k with t1 := x.t1, t2 := x.t2, t3 := x.t3, y := x.y }
  else if x.k = 7 then { zr x.k with t1 := x.t1, t2 := x.t2, t3 := x.t3 }
  else if x.k = 8 then { zr x.k with n4 := x.n4, n6 := x.n6, n1 := x.n1 }
  else if x.k = 9 then { zr x.k with n4 := x.n4, n6 := x.n6, n7 := x.n7, n8 := x.n8 }
  else if x.k = 10 then { zr x.k with n4 := x.n4, n6 := x.n6 }
  else if x.k = 11 then { zr x.k with t1 := x.t1, t2 := x.t2, t3 := x.t3, y := x.y }
  else zr x.k
def btw (a b x : Int) : Bool := decide (a ≤ x) && decide (x ≤ b)
def placedB (x : Rc) (least : Int) : Bool := btw 0 15 x.n4 && btw least 1099511627776 x.n6
def cellB (x : Rc) : Bool := (if x.n5 = 2 then btw 1 16 x.n1 else x.n1 == 0) && (placedB x 0 && (btw 0 2 x.n5 && btw 0 1099511627776 x.n7))
def tdB (x : Rc) : Bool := tidR ⟨x.t1, x.t2, x.t3⟩
def okB (x : Rc) : Bool :=
  if x.k = 1 then btw 1 16 x.n2 && (btw 1 x.n2 x.n1 && btw 1 16 x.n3)
  else if x.k = 2 then btw 1 1099511627776 x.n3
  else if x.k = 3 then cellB x
  else if x.k = 4 then tdB x && (itemsR x.l && nodesR x.xs)
  else if x.k = 5 then tdB x && ((x.l.length == 0 || itemsR x.l) && nodesR x.xs)
  else if x.k = 6 then tdB x
  else if x.k = 7 then tdB x
  else if x.k = 8 then placedB x 1 && btw 1 16 x.n1
  else if x.k = 9 then placedB x 1 && btw 0 1099511627776 x.n7
  else if x.k = 10 then placedB x 1
  else if x.k = 11 then tdB x
  else x.k == 12
def bareB (x : Rc) : Bool := decide (pl x = x)
def rightB (x : Rc) : Bool := bareB x && okB x
theorem kinds (x : Rc) (h : okB x = true) : x.k = 1 ∨ x.k = 2 ∨ x.k = 3 ∨ x.k = 4 ∨ x.k = 5 ∨ x.k = 6 ∨ x.k = 7 ∨ x.k = 8 ∨ x.k = 9 ∨ x.k = 10 ∨ x.k = 11 ∨ x.k = 12 := by
  unfold okB at h
  by_cases h1 : x.k = 1; exact .inl h1
  by_cases h2 : x.k = 2; exact .inr (.inl h2)
  by_cases h3 : x.k = 3; omega
  by_cases h4 : x.k = 4; omega
  by_cases h5 : x.k = 5; omega
  by_cases h6 : x.k = 6; omega
  by_cases h7 : x.k = 7; omega
  by_cases h8 : x.k = 8; omega
  by_cases h9 : x.k = 9; omega
  by_cases h10 : x.k = 10; omega
  by_cases h11 : x.k = 11; omega
  rw [if_neg h1, if_neg h2, if_neg h3, if_neg h4, if_neg h5, if_neg h6, if_neg h7, if_neg h8, if_neg h9, if_neg h10, if_neg h11] at h
  have : x.k = 12 := by simpa using h
  omega

/-! ### bytes -/
def kB (k : Int) : List UInt8 := bigB k.toNat 1
def bodyB (x : Rc) : List UInt8 :=
  if x.k = 1 then numsB [x.n1, x.n2, x.n3]
  else if x.k = 2 then numsB [x.n3]
  else if x.k = 3 then numsB [x.n4, x.n5, x.n6, x.n1, x.n7, x.n8]
  else if x.k = 8 then numsB [x.n4, x.n6, x.n1]
  else if x.k = 9 then numsB [x.n4, x.n6, x.n7, x.n8]
  else if x.k = 10 then numsB [x.n4, x.n6]
  else if x.k = 12 then []
  else numsB [x.t1, x.t2, x.t3] ++
    (if x.k = 4 ∨ x.k = 5 then (bigB x.l.length 2 ++ itemsB x.l) ++ (bigB x.xs.length 2 ++ numsB x.xs)
     else if x.k = 6 ∨ x.k = 11 then [if x.y then 1 else 0] else [])
def encB (x : Rc) : List UInt8 := kB x.k ++ bodyB x

/-! ### and back -/
def kOf (s : ByteArray) : Int := (numT 1 s false : Nat)
def oOf (s : ByteArray) : ByteArray × Bool := (takeS 1 s false, takeQ 1 s false)
def body (k : Int) (o : ByteArray × Bool) : Rc × (ByteArray × Bool) :=
  if k = 1 then ({ zr k with n1 := nv o, n2 := nv (nxt o), n3 := nv (nxt (nxt o)) }, nxts 3 o)
  else if k = 2 then ({ zr k with n3 := nv o }, nxts 1 o)
  else if k = 3 then ({ zr k with n4 := nv o, n5 := nv (nxts 1 o), n6 := nv (nxts 2 o), n1 := nv (nxts 3 o), n7 := nv (nxts 4 o), n8 := nv (nxts 5 o) }, nxts 6 o)
  else if k = 8 then ({ zr k with n4 := nv o, n6 := nv (nxts 1 o), n1 := nv (nxts 2 o) }, nxts 3 o)
  else if k = 9 then ({ zr k with n4 := nv o, n6 := nv (nxts 1 o), n7 := nv (nxts 2 o), n8 := nv (nxts 3 o) }, nxts 4 o)
  else if k = 10 then ({ zr k with n4 := nv o, n6 := nv (nxts 1 o) }, nxts 2 o)
  else if k = 12 then (zr k, o)
  else if k = 4 ∨ k = 5 then
    ({ zr k with t1 := nv o, t2 := nv (nxts 1 o), t3 := nv (nxts 2 o), l := itemsV (manyV (nxts 3 o)) (manyS (nxts 3 o)), xs := nodesV (manyV (itSs (manyV (nxts 3 o)) (manyS (nxts 3 o)))) (manyS (itSs (manyV (nxts 3 o)) (manyS (nxts 3 o)))) },
      nxts (manyV (itSs (manyV (nxts 3 o)) (manyS (nxts 3 o)))) (manyS (itSs (manyV (nxts 3 o)) (manyS (nxts 3 o)))))
  else if k = 6 ∨ k = 11 then ({ zr k with t1 := nv o, t2 := nv (nxts 1 o), t3 := nv (nxts 2 o), y := bv (nxts 3 o) }, bo (nxts 3 o))
  else ({ zr k with t1 := nv o, t2 := nv (nxts 1 o), t3 := nv (nxts 2 o) }, nxts 3 o)
def dec (s : ByteArray) : Rc × (ByteArray × Bool) := body (kOf s) (oOf s)

/-! ### the fields of a kind, as a list -/
def flds (k : Int) : List Nat :=
  if k = 1 then [1, 2, 3] else if k = 2 then [3] else if k = 3 then [4, 5, 6, 1, 7, 8] else if k = 8 then [4, 6, 1] else if k = 9 then [4, 6, 7, 8] else if k = 10 then [4, 6] else []
def Rc.num (x : Rc) (f : Nat) : Int := match f with
  | 1 => x.n1 | 2 => x.n2 | 3 => x.n3 | 4 => x.n4 | 5 => x.n5 | 6 => x.n6 | 7 => x.n7 | 8 => x.n8 | _ => 0
def Rc.set (x : Rc) (f : Nat) (n : Int) : Rc := match f with
  | 1 => { x with n1 := n } | 2 => { x with n2 := n } | 3 => { x with n3 := n } | 4 => { x with n4 := n } | 5 => { x with n5 := n } | 6 => { x with n6 := n } | 7 => { x with n7 := n } | 8 => { x with n8 := n } | _ => x
def rdN : List Nat → Rc → ByteArray × Bool → Rc × (ByteArray × Bool)
  | [], x, o => (x, o)
  | f :: fs, x, o => rdN fs (x.set f (nv o)) (nxt o)

/-! ### few items and nodes -/
theorem getD_lt {α : Type} {l : List α} {i : Nat} {d : α} (h : i < l.length) : l.getD i d = l[i] := by rw [List.getD_eq_getElem?_getD, List.getElem?_eq_getElem h]; rfl
theorem items_le (l : List Im) (h : itemsR l = true) : ∀ i (hi : i < l.length), (i : Int) ≤ l[i].c ∧ l[i].c ≤ 15 := by
  have hall : ∀ i, i < l.length → okAt l i = true := by
    unfold itemsR at h
    rw [Bool.and_eq_true, List.all_eq_true] at h
    exact fun i hi => h.1 i (List.mem_range.2 hi)
  intro i
  induction i with
  | zero =>
    intro hi
    have h0 := hall 0 hi
    unfold okAt itemR at h0
    rw [getD_lt hi] at h0
    simp [inB, outN] at h0
    omega
  | succ i ih =>
    intro hi
    have h1 := ih (by omega)
    have h0 := hall (i + 1) hi
    unfold okAt itemR at h0
    rw [getD_lt hi, show i + 1 - 1 = i from rfl, getD_lt (by omega : i < l.length)] at h0
    simp [inB, outN] at h0
    omega
theorem items_16 (l : List Im) (h : itemsR l = true) : l.length ≤ 16 := by
  rcases Nat.lt_or_ge 16 l.length with h1 | h1
  · have := items_le l h 16 h1
    omega
  · exact h1
theorem nodes_le (l : List Int) (h : nodesR l = true) : ∀ i (hi : i < l.length), (i : Int) + 1 ≤ l[i] ∧ l[i] ≤ 16 := by
  unfold nodesR at h
  rw [Bool.and_eq_true, List.all_eq_true] at h
  have hall : ∀ i, i < l.length → nodeAt l i = true := fun i hi => h.1 i (List.mem_range.2 hi)
  have hin : ∀ i (hi : i < l.length), 1 ≤ l[i] ∧ l[i] ≤ 16 := by
    intro i hi
    have h2 := h.2
    unfold inB at h2
    rw [Bool.not_eq_true', List.any_eq_false] at h2
    have := h2 l[i] (List.getElem_mem hi)
    simp [outN] at this
    omega
  intro i
  induction i with
  | zero => intro hi; have := hin 0 hi; simpa using this
  | succ i ih =>
    intro hi
    have h1 := ih (by omega)
    have h2 := hin (i + 1) hi
    have h0 := hall (i + 1) hi
    unfold nodeAt at h0
    rw [getD_lt hi, show i + 1 - 1 = i from rfl, getD_lt (by omega : i < l.length)] at h0
    simp at h0
    omega
theorem nodes_16 (l : List Int) (h : nodesR l = true) : l.length ≤ 16 := by
  rcases Nat.lt_or_ge 16 l.length with h1 | h1
  · have := nodes_le l h 16 h1
    omega
  · exact h1

/-! ### what was put comes back -/
theorem k_back (k : Int) (h : 0 ≤ k ∧ k < 256) (R : List UInt8) : kOf (str (kB k ++ R)) = k ∧ oOf (str (kB k ++ R)) = (str R, false) := by
  obtain ⟨n, rfl⟩ := Int.eq_ofNat_of_zero_le h.1
  have e1 : numT 1 (str (bigB n 1 ++ R)) false = n := numT_app 1 n R (by omega) (by omega)
  have e2 := take_app 1 (bigB n 1) R (len_big n 1)
  refine ⟨?_, ?_⟩
  · unfold kOf kB; rw [show ((n : Int)).toNat = n from rfl, e1]
  · unfold oOf kB; rw [show ((n : Int)).toNat = n from rfl, e2.2.1, e2.2.2]
theorem nums_back (l : List Int) (h : ∀ x ∈ l, i64 x) : nodesV l.length (str (numsB l), false) = l ∧ nxts l.length (str (numsB l), false) = (str [], false) := by
  have := nodes_app l h []
  rw [List.append_nil] at this
  exact this
theorem nodesV_at : ∀ (k : Nat) (o : ByteArray × Bool) (i : Nat), i < k → (nodesV k o)[i]? = some (nv (nxts i o)) := by
  intro k
  induction k with
  | zero => intro o i hi; exact absurd hi (Nat.not_lt_zero _)
  | succ k ih =>
    intro o i hi
    rw [nodes_snoc k o]
    rcases Nat.lt_or_ge i k with h | h
    · rw [List.getElem?_append_left (by rw [len_nodesV]; exact h)]
      exact ih o i h
    · have hik : i = k := Nat.le_antisymm (Nat.le_of_lt_succ hi) h
      rw [List.getElem?_append_right (by rw [len_nodesV]; exact h), len_nodesV, hik, Nat.sub_self]
      rfl
theorem nums_each (l : List Int) (h : ∀ x ∈ l, i64 x) (R : List UInt8) : (∀ i (hi : i < l.length), nv (nxts i (str (numsB l ++ R), false)) = l[i]) ∧ nxts l.length (str (numsB l ++ R), false) = (str R, false) := by
  obtain ⟨h1, h2⟩ := nodes_app l h R
  refine ⟨fun i hi => ?_, h2⟩
  have := nodesV_at l.length (str (numsB l ++ R), false) i hi
  rw [h1, List.getElem?_eq_getElem hi] at this
  exact (Option.some.inj this).symm
theorem lists_16 (l : List Im) (xs : List Int) (h : l = [] ∨ itemsR l = true) (h2 : nodesR xs = true) : l.length ≤ 16 ∧ xs.length ≤ 16 :=
  ⟨by rcases h with rfl | h
      · simp
      · exact items_16 l h, nodes_16 xs h2⟩
theorem t_each (t1 t2 t3 : Int) (h1 : i64 t1) (h2 : i64 t2) (h3 : i64 t3) (R : List UInt8) : nv (str (numsB [t1, t2, t3] ++ R), false) = t1 ∧ nv (nxts 1 (str (numsB [t1, t2, t3] ++ R), false)) = t2 ∧ nv (nxts 2 (str (numsB [t1, t2, t3] ++ R), false)) = t3 ∧ nxts 3 (str (numsB [t1, t2, t3] ++ R), false) = (str R, false) := by
  have ht := nums_each [t1, t2, t3] (by intro z hz; simp at hz; rcases hz with rfl | rfl | rfl <;> assumption) R
  exact ⟨ht.1 0 (by simp), ht.1 1 (by simp), ht.1 2 (by simp), ht.2⟩
theorem lists_back (l : List Im) (xs : List Int) (gl : ∀ z ∈ l, goodIm z) (gx : ∀ z ∈ xs, i64 z) (hi : l.length ≤ 16) (hx : xs.length ≤ 16) :
    let o : ByteArray × Bool := (str ((bigB l.length 2 ++ itemsB l) ++ (bigB xs.length 2 ++ numsB xs)), false)
    let o2 := itSs (manyV o) (manyS o)
    itemsV (manyV o) (manyS o) = l ∧ nodesV (manyV o2) (manyS o2) = xs ∧ nxts (manyV o2) (manyS o2) = (str [], false) := by
  have e1 := many_few l.length (itemsB l ++ (bigB xs.length 2 ++ numsB xs)) hi
  have e2 := items_app l gl (bigB xs.length 2 ++ numsB xs)
  have e3 := many_few xs.length (numsB xs) hx
  have e4 := nodes_app xs gx []
  rw [List.append_nil] at e4
  rw [List.append_assoc]
  dsimp only
  rw [e1.1, e1.2, e2.1, e2.2, e3.1, e3.2, e4.1, e4.2]
  exact ⟨rfl, rfl, rfl⟩
theorem dec_enc (x : Rc) (hg : goodRc x) (hr : rightB x = true) : dec (str (encB x)) = (x, (str [], false)) := by
  unfold rightB bareB at hr
  rw [Bool.and_eq_true, decide_eq_true_iff] at hr
  obtain ⟨hp, hk⟩ := hr
  have hkk := kinds x hk
  unfold dec encB
  rw [(k_back x.k (by omega) _).1, (k_back x.k (by omega) _).2]
  obtain ⟨g0, g1, g2, g3, gl, gx, m1, m2, m3, m4, m5, m6, m7, m8⟩ := hg
  obtain ⟨k, t1, t2, t3, l, xs, n1, n2, n3, n4, n5, n6, n7, n8, y⟩ := x
  dsimp only at *
  have ht := nums_each [t1, t2, t3] (by intro z hz; simp at hz; rcases hz with rfl | rfl | rfl <;> assumption)
  rcases hkk with rfl | rfl | rfl | rfl | rfl | rfl | rfl | rfl | rfl | rfl | rfl | rfl
  · have hn := nums_each [n1, n2, n3] (by intro z hz; simp at hz; rcases hz with rfl | rfl | rfl <;> assumption) []
    rw [List.append_nil] at hn
    have a0 := hn.1 0 (by simp); have a1 := hn.1 1 (by simp); have a2 := hn.1 2 (by simp)
    have a3 := hn.2
    simp [pl, zr] at hp
    repeat (obtain ⟨rfl, hp⟩ := hp)
    try subst hp
    simp [body, bodyB, nxts] at a0 a1 a2 a3 ⊢
    simp [a0, a1, a2, a3, zr]
  · have hn := nums_each [n3] (by intro z hz; simp at hz; rcases hz with rfl; assumption) []
    rw [List.append_nil] at hn
    have a0 := hn.1 0 (by simp)
    have a3 := hn.2
    simp [pl, zr] at hp
    repeat (obtain ⟨rfl, hp⟩ := hp)
    try subst hp
    simp [body, bodyB, nxts] at a0 a3 ⊢
    simp [a0, a3, zr]
  · have hn := nums_each [n4, n5, n6, n1, n7, n8] (by intro z hz; simp at hz; rcases hz with rfl | rfl | rfl | rfl | rfl | rfl <;> assumption) []
    rw [List.append_nil] at hn
    have a0 := hn.1 0 (by simp); have a1 := hn.1 1 (by simp); have a2 := hn.1 2 (by simp); have a3 := hn.1 3 (by simp); have a4 := hn.1 4 (by simp); have a5 := hn.1 5 (by simp)
    have a6 := hn.2
    simp [pl, zr] at hp
    repeat (obtain ⟨rfl, hp⟩ := hp)
    try subst hp
    simp [body, bodyB, nxts] at a0 a1 a2 a3 a4 a5 a6 ⊢
    simp [a0, a1, a2, a3, a4, a5, a6, zr]
  · have hq := hk
    simp [okB] at hq
    obtain ⟨hi, hx⟩ := lists_16 l xs (.inr hq.2.1) hq.2.2
    obtain ⟨a0, a1, a2, a3⟩ := t_each t1 t2 t3 g1 g2 g3 ((bigB l.length 2 ++ itemsB l) ++ (bigB xs.length 2 ++ numsB xs))
    obtain ⟨u1, u2, u3⟩ := lists_back l xs gl gx hi hx
    simp [pl, zr] at hp
    repeat (obtain ⟨rfl, hp⟩ := hp)
    try subst hp
    simp only [bodyB]
    simp only [body]
    rw [if_neg (by decide), if_neg (by decide), if_neg (by decide), if_neg (by decide), if_neg (by decide), if_neg (by decide), if_neg (by decide), if_pos (by decide)]
    rw [if_neg (by decide), if_neg (by decide), if_neg (by decide), if_neg (by decide), if_neg (by decide), if_neg (by decide), if_neg (by decide), if_pos (by decide)]
    rw [a0, a1, a2, a3]

    rw [u1, u2, u3]
    rfl
  · have hq := hk
    simp [okB] at hq
    obtain ⟨hi, hx⟩ := lists_16 l xs hq.2.1 hq.2.2
    obtain ⟨a0, a1, a2, a3⟩ := t_each t1 t2 t3 g1 g2 g3 ((bigB l.length 2 ++ itemsB l) ++ (bigB xs.length 2 ++ numsB xs))
    obtain ⟨u1, u2, u3⟩ := lists_back l xs gl gx hi hx
    simp [pl, zr] at hp
    repeat (obtain ⟨rfl, hp⟩ := hp)
    try subst hp
    simp only [bodyB]
    simp only [body]
    rw [if_neg (by decide), if_neg (by decide), if_neg (by decide), if_neg (by decide), if_neg (by decide), if_neg (by decide), if_neg (by decide), if_pos (by decide)]
    rw [if_neg (by decide), if_neg (by decide), if_neg (by decide), if_neg (by decide), if_neg (by decide), if_neg (by decide), if_neg (by decide), if_pos (by decide)]
    rw [a0, a1, a2, a3]

    rw [u1, u2, u3]
    rfl
  · obtain ⟨a0, a1, a2, a3⟩ := t_each t1 t2 t3 g1 g2 g3 [if y then 1 else 0]
    have hb := bo_app y []
    rw [List.append_nil] at hb
    simp [pl, zr] at hp
    repeat (obtain ⟨rfl, hp⟩ := hp)
    try subst hp
    simp only [bodyB]
    simp only [body]
    simp [a0, a1, a2, a3, hb.1, hb.2, zr]
  · obtain ⟨a0, a1, a2, a3⟩ := t_each t1 t2 t3 g1 g2 g3 []
    rw [List.append_nil] at a0 a1 a2 a3
    simp [pl, zr] at hp
    repeat (obtain ⟨rfl, hp⟩ := hp)
    try subst hp
    simp only [bodyB]
    simp only [body]
    simp [a0, a1, a2, a3, zr]
  · have hn := nums_each [n4, n6, n1] (by intro z hz; simp at hz; rcases hz with rfl | rfl | rfl <;> assumption) []
    rw [List.append_nil] at hn
    have a0 := hn.1 0 (by simp); have a1 := hn.1 1 (by simp); have a2 := hn.1 2 (by simp)
    have b9 := hn.2
    simp [pl, zr] at hp
    repeat (obtain ⟨rfl, hp⟩ := hp)
    try subst hp
    simp [body, bodyB, nxts] at a0 a1 a2 b9 ⊢
    simp [a0, a1, a2, b9, zr]
  · have hn := nums_each [n4, n6, n7, n8] (by intro z hz; simp at hz; rcases hz with rfl | rfl | rfl | rfl <;> assumption) []
    rw [List.append_nil] at hn
    have a0 := hn.1 0 (by simp); have a1 := hn.1 1 (by simp); have a2 := hn.1 2 (by simp); have a3 := hn.1 3 (by simp)
    have b9 := hn.2
    simp [pl, zr] at hp
    repeat (obtain ⟨rfl, hp⟩ := hp)
    try subst hp
    simp [body, bodyB, nxts] at a0 a1 a2 a3 b9 ⊢
    simp [a0, a1, a2, a3, b9, zr]
  · have hn := nums_each [n4, n6] (by intro z hz; simp at hz; rcases hz with rfl | rfl <;> assumption) []
    rw [List.append_nil] at hn
    have a0 := hn.1 0 (by simp); have a1 := hn.1 1 (by simp)
    have b9 := hn.2
    simp [pl, zr] at hp
    repeat (obtain ⟨rfl, hp⟩ := hp)
    try subst hp
    simp [body, bodyB, nxts] at a0 a1 b9 ⊢
    simp [a0, a1, b9, zr]
  · obtain ⟨a0, a1, a2, a3⟩ := t_each t1 t2 t3 g1 g2 g3 [if y then 1 else 0]
    have hb := bo_app y []
    rw [List.append_nil] at hb
    simp [pl, zr] at hp
    repeat (obtain ⟨rfl, hp⟩ := hp)
    try subst hp
    simp only [bodyB]
    simp only [body]
    simp [a0, a1, a2, a3, hb.1, hb.2, zr]
  · simp [pl, zr] at hp
    repeat (obtain ⟨rfl, hp⟩ := hp)
    try subst hp
    simp [body, bodyB, zr]
theorem enc_inj (x y : Rc) (gx : goodRc x) (gy : goodRc y) (hx : rightB x = true) (hy : rightB y = true) (h : str (encB x) = str (encB y)) : x = y := by
  have h1 := dec_enc x gx hx
  rw [h, dec_enc y gy hy] at h1
  exact (congrArg Prod.fst h1).symm
end Go.Proofs.Ytfpocddpnoighaa.Rc

/- record: a record as it lies in memory; plain. -/
namespace Go.Proofs.Ytfpocddpnoighaa.Rc
open Go.RowKit Go.Proofs.Ytfpocddpnoighaa.L Go.Proofs.Ytfpocddpnoighaa.O Go.Proofs.Ytfpocddpnoighaa.A Go.Proofs.Ytfpocddpnoighaa.R Go.Proofs.Ytfpocddpnoighaa.S Go.Proofs.Ytfpocddpnoighaa.T Go.Proofs.Ytfpocddpnoighaa.E Go.Proofs.Ytfpocddpnoighaa.F Go.Proofs.Ytfpocddpnoighaa.It
open Go.Proofs.Ytfpocddpnoighaa.Wr hiding str str_size str_list
set_option linter.unusedVariables false
set_option linter.unusedSimpArgs false

/-- a record's cells, its two slices given. -/
abbrev rcA (x : Rc) (I N : Value) : Array Value := #[.int .i64 x.k, .int .i64 x.t1, .int .i64 x.t2, .int .i64 x.t3, I, N, .int .i64 x.n1, .int .i64 x.n2, .int .i64 x.n3, .int .i64 x.n4, .int .i64 x.n5, .int .i64 x.n6, .int .i64 x.n7, .int .i64 x.n8, .bool x.y]
theorem rc_cells {W : World} {g : Nat} {cs : Array Value} {T : TypeId} (h : W.heap[g]? = some (.cells cs T (0, 0))) (j : Nat) : W.cell? ⟨g, j, none⟩ = cs[j]? ∧ W.frozen? ⟨g, j, none⟩ = false :=
  ⟨cell_of_row _ _ _ _ _ _ h, by simp [World.frozen?, h]⟩
theorem ret_rc {fn : Func} {p : Tmp} (h : fn.results = #[.cell p 89]) (tmps : Array Value) (w : World) (g : Nat) (x : Rc) (I N : Value) (hp : tmps.getD p undef = .pointer (some ⟨g, 0, none⟩)) (hg : w.heap[g]? = some (.cells (rcA x I N) 89 (0, 0))) :
    (results fn tmps).run Try.prog w = .ok (.agg (rcA x I N)) w :=
  results_cell_row h tmps w g 89 (rcA x I N) (0, 0) _ hp hg Try.underlying89 rfl (by kernel_rfl)
theorem mid3 (w : World) (A B C : Obj) : (((w.alloc A).alloc B).alloc C).heap[w.heap.size + 1]? = some B := by
  rw [heap_alloc_old _ _ (by simp)]
  exact heap_alloc2_new w A B
/-- the slices that a kind keeps. -/
def keepS (k : Int) (V : Value) : Value := if k = 4 ∨ k = 5 then V else .slice none 0 0
end Go.Proofs.Ytfpocddpnoighaa.Rc

/- record: plain, kind by kind. -/
namespace Go.Proofs.Ytfpocddpnoighaa.Rc
open Go.RowKit Go.Proofs.Ytfpocddpnoighaa.L Go.Proofs.Ytfpocddpnoighaa.O Go.Proofs.Ytfpocddpnoighaa.A Go.Proofs.Ytfpocddpnoighaa.R Go.Proofs.Ytfpocddpnoighaa.S Go.Proofs.Ytfpocddpnoighaa.T Go.Proofs.Ytfpocddpnoighaa.E Go.Proofs.Ytfpocddpnoighaa.F Go.Proofs.Ytfpocddpnoighaa.It
open Go.Proofs.Ytfpocddpnoighaa.Wr hiding str str_size str_list
set_option linter.unusedVariables false
set_option linter.unusedSimpArgs false

set_option maxHeartbeats 4000000 in
set_option maxRecDepth 100000 in
theorem plain_1 (x : Rc) (iA : Option Addr) (ni ic : Nat) (nA : Option Addr) (nn nc : Nat) (w : World) (hk : x.k = 1) : Calls Try.prog 133 #[.agg (rcA x (.slice iA ni ic) (.slice nA nn nc))] w fun e w' => e = .returned (.agg (rcA (pl x) (keepS x.k (.slice iA ni ic)) (keepS x.k (.slice nA nn nc)))) ∧ Below w.heap.size w w' := by
  obtain ⟨k, t1, t2, t3, l, xs, n1, n2, n3, n4, n5, n6, n7, n8, y⟩ := x
  dsimp only at hk
  subst hk
  go_enter Try.func133, Try.ntmps133
  go_wp2_with fail
  go_region
  go_wp2
  refine bodyPost_ret (ret_rc Try.results133 _ _ (w.heap.size + 1) (pl ⟨1, t1, t2, t3, l, xs, n1, n2, n3, n4, n5, n6, n7, n8, y⟩) (.slice none 0 0) (.slice none 0 0) (by simp) (by exact mid3 w _ _ _)) rfl ⟨?_, (below2 (below2 (below_alloc _ _) (below_alloc _ _)) (below_alloc _ _)).drew⟩
  rfl
set_option maxHeartbeats 4000000 in
set_option maxRecDepth 100000 in
theorem plain_2 (x : Rc) (iA : Option Addr) (ni ic : Nat) (nA : Option Addr) (nn nc : Nat) (w : World) (hk : x.k = 2) : Calls Try.prog 133 #[.agg (rcA x (.slice iA ni ic) (.slice nA nn nc))] w fun e w' => e = .returned (.agg (rcA (pl x) (keepS x.k (.slice iA ni ic)) (keepS x.k (.slice nA nn nc)))) ∧ Below w.heap.size w w' := by
  obtain ⟨k, t1, t2, t3, l, xs, n1, n2, n3, n4, n5, n6, n7, n8, y⟩ := x
  dsimp only at hk
  subst hk
  go_enter Try.func133, Try.ntmps133
  go_wp2_with fail
  refine bodyPost_ret (ret_rc Try.results133 _ _ (w.heap.size + 1) (pl ⟨2, t1, t2, t3, l, xs, n1, n2, n3, n4, n5, n6, n7, n8, y⟩) (.slice none 0 0) (.slice none 0 0) (by simp) (by exact mid3 w _ _ _)) rfl ⟨?_, (below2 (below2 (below_alloc _ _) (below_alloc _ _)) (below_alloc _ _))⟩
  rfl
set_option maxHeartbeats 4000000 in
set_option maxRecDepth 100000 in
theorem plain_4 (x : Rc) (iA : Option Addr) (ni ic : Nat) (nA : Option Addr) (nn nc : Nat) (w : World) (hk : x.k = 4) : Calls Try.prog 133 #[.agg (rcA x (.slice iA ni ic) (.slice nA nn nc))] w fun e w' => e = .returned (.agg (rcA (pl x) (keepS x.k (.slice iA ni ic)) (keepS x.k (.slice nA nn nc)))) ∧ Below w.heap.size w w' := by
  obtain ⟨k, t1, t2, t3, l, xs, n1, n2, n3, n4, n5, n6, n7, n8, y⟩ := x
  dsimp only at hk
  subst hk
  go_enter Try.func133, Try.ntmps133
  go_wp2_with fail
  go_region
  go_wp2
  refine bodyPost_ret (ret_rc Try.results133 _ _ (w.heap.size + 1) (pl ⟨4, t1, t2, t3, l, xs, n1, n2, n3, n4, n5, n6, n7, n8, y⟩) (.slice iA ni ic) (.slice nA nn nc) (by simp) (by exact mid3 w _ _ _)) rfl ⟨?_, (below2 (below2 (below_alloc _ _) (below_alloc _ _)) (below_alloc _ _)).drew⟩
  rfl
set_option maxHeartbeats 4000000 in
set_option maxRecDepth 100000 in
theorem plain_5 (x : Rc) (iA : Option Addr) (ni ic : Nat) (nA : Option Addr) (nn nc : Nat) (w : World) (hk : x.k = 5) : Calls Try.prog 133 #[.agg (rcA x (.slice iA ni ic) (.slice nA nn nc))] w fun e w' => e = .returned (.agg (rcA (pl x) (keepS x.k (.slice iA ni ic)) (keepS x.k (.slice nA nn nc)))) ∧ Below w.heap.size w w' := by
  obtain ⟨k, t1, t2, t3, l, xs, n1, n2, n3, n4, n5, n6, n7, n8, y⟩ := x
  dsimp only at hk
  subst hk
  go_enter Try.func133, Try.ntmps133
  go_wp2_with fail
  go_region
  go_wp2
  refine bodyPost_ret (ret_rc Try.results133 _ _ (w.heap.size + 1) (pl ⟨5, t1, t2, t3, l, xs, n1, n2, n3, n4, n5, n6, n7, n8, y⟩) (.slice iA ni ic) (.slice nA nn nc) (by simp) (by exact mid3 w _ _ _)) rfl ⟨?_, (below2 (below2 (below_alloc _ _) (below_alloc _ _)) (below_alloc _ _)).drew⟩
  rfl
set_option maxHeartbeats 4000000 in
set_option maxRecDepth 100000 in
theorem plain_6 (x : Rc) (iA : Option Addr) (ni ic : Nat) (nA : Option Addr) (nn nc : Nat) (w : World) (hk : x.k = 6) : Calls Try.prog 133 #[.agg (rcA x (.slice iA ni ic) (.slice nA nn nc))] w fun e w' => e = .returned (.agg (rcA (pl x) (keepS x.k (.slice iA ni ic)) (keepS x.k (.slice nA nn nc)))) ∧ Below w.heap.size w w' := by
  obtain ⟨k, t1, t2, t3, l, xs, n1, n2, n3, n4, n5, n6, n7, n8, y⟩ := x
  dsimp only at hk
  subst hk
  go_enter Try.func133, Try.ntmps133
  go_wp2_with fail
  go_region
  go_wp2
  refine bodyPost_ret (ret_rc Try.results133 _ _ (w.heap.size + 1) (pl ⟨6, t1, t2, t3, l, xs, n1, n2, n3, n4, n5, n6, n7, n8, y⟩) (.slice none 0 0) (.slice none 0 0) (by simp) (by exact mid3 w _ _ _)) rfl ⟨?_, (below2 (below2 (below_alloc _ _) (below_alloc _ _)) (below_alloc _ _)).drew⟩
  rfl
set_option maxHeartbeats 4000000 in
set_option maxRecDepth 100000 in
theorem plain_7 (x : Rc) (iA : Option Addr) (ni ic : Nat) (nA : Option Addr) (nn nc : Nat) (w : World) (hk : x.k = 7) : Calls Try.prog 133 #[.agg (rcA x (.slice iA ni ic) (.slice nA nn nc))] w fun e w' => e = .returned (.agg (rcA (pl x) (keepS x.k (.slice iA ni ic)) (keepS x.k (.slice nA nn nc)))) ∧ Below w.heap.size w w' := by
  obtain ⟨k, t1, t2, t3, l, xs, n1, n2, n3, n4, n5, n6, n7, n8, y⟩ := x
  dsimp only at hk
  subst hk
  go_enter Try.func133, Try.ntmps133
  go_wp2_with fail
  refine bodyPost_ret (ret_rc Try.results133 _ _ (w.heap.size + 1) (pl ⟨7, t1, t2, t3, l, xs, n1, n2, n3, n4, n5, n6, n7, n8, y⟩) (.slice none 0 0) (.slice none 0 0) (by simp) (by exact mid3 w _ _ _)) rfl ⟨?_, (below2 (below2 (below_alloc _ _) (below_alloc _ _)) (below_alloc _ _))⟩
  rfl
end Go.Proofs.Ytfpocddpnoighaa.Rc

/- record: plain, kind by kind. -/
namespace Go.Proofs.Ytfpocddpnoighaa.Rc
open Go.RowKit Go.Proofs.Ytfpocddpnoighaa.L Go.Proofs.Ytfpocddpnoighaa.O Go.Proofs.Ytfpocddpnoighaa.A Go.Proofs.Ytfpocddpnoighaa.R Go.Proofs.Ytfpocddpnoighaa.S Go.Proofs.Ytfpocddpnoighaa.T Go.Proofs.Ytfpocddpnoighaa.E Go.Proofs.Ytfpocddpnoighaa.F Go.Proofs.Ytfpocddpnoighaa.It
open Go.Proofs.Ytfpocddpnoighaa.Wr hiding str str_size str_list
set_option linter.unusedVariables false
set_option linter.unusedSimpArgs false

set_option maxHeartbeats 4000000 in
set_option maxRecDepth 100000 in
theorem plain_3 (x : Rc) (iA : Option Addr) (ni ic : Nat) (nA : Option Addr) (nn nc : Nat) (w : World) (hk : x.k = 3) : Calls Try.prog 133 #[.agg (rcA x (.slice iA ni ic) (.slice nA nn nc))] w fun e w' => e = .returned (.agg (rcA (pl x) (keepS x.k (.slice iA ni ic)) (keepS x.k (.slice nA nn nc)))) ∧ Below w.heap.size w w' := by
  obtain ⟨k, t1, t2, t3, l, xs, n1, n2, n3, n4, n5, n6, n7, n8, y⟩ := x
  dsimp only at hk
  subst hk
  go_enter Try.func133, Try.ntmps133
  go_wp2_with fail
  go_region
  go_wp2
  refine bodyPost_ret (ret_rc Try.results133 _ _ (w.heap.size + 1) (pl ⟨3, t1, t2, t3, l, xs, n1, n2, n3, n4, n5, n6, n7, n8, y⟩) (.slice none 0 0) (.slice none 0 0) (by simp) (by exact mid3 w _ _ _)) rfl ⟨?_, (below2 (below2 (below_alloc _ _) (below_alloc _ _)) (below_alloc _ _)).drew⟩
  rfl
end Go.Proofs.Ytfpocddpnoighaa.Rc

/- record: plain, kind by kind. -/
namespace Go.Proofs.Ytfpocddpnoighaa.Rc
open Go.RowKit Go.Proofs.Ytfpocddpnoighaa.L Go.Proofs.Ytfpocddpnoighaa.O Go.Proofs.Ytfpocddpnoighaa.A Go.Proofs.Ytfpocddpnoighaa.R Go.Proofs.Ytfpocddpnoighaa.S Go.Proofs.Ytfpocddpnoighaa.T Go.Proofs.Ytfpocddpnoighaa.E Go.Proofs.Ytfpocddpnoighaa.F Go.Proofs.Ytfpocddpnoighaa.It
open Go.Proofs.Ytfpocddpnoighaa.Wr hiding str str_size str_list
set_option linter.unusedVariables false
set_option linter.unusedSimpArgs false

set_option maxHeartbeats 4000000 in
set_option maxRecDepth 100000 in
theorem plain_8 (x : Rc) (iA : Option Addr) (ni ic : Nat) (nA : Option Addr) (nn nc : Nat) (w : World) (hk : x.k = 8) : Calls Try.prog 133 #[.agg (rcA x (.slice iA ni ic) (.slice nA nn nc))] w fun e w' => e = .returned (.agg (rcA (pl x) (keepS x.k (.slice iA ni ic)) (keepS x.k (.slice nA nn nc)))) ∧ Below w.heap.size w w' := by
  obtain ⟨k, t1, t2, t3, l, xs, n1, n2, n3, n4, n5, n6, n7, n8, y⟩ := x
  dsimp only at hk
  subst hk
  go_enter Try.func133, Try.ntmps133
  go_wp2_with fail
  go_region
  go_wp2
  refine bodyPost_ret (ret_rc Try.results133 _ _ (w.heap.size + 1) (pl ⟨8, t1, t2, t3, l, xs, n1, n2, n3, n4, n5, n6, n7, n8, y⟩) (.slice none 0 0) (.slice none 0 0) (by simp) (by exact mid3 w _ _ _)) rfl ⟨?_, (below2 (below2 (below_alloc _ _) (below_alloc _ _)) (below_alloc _ _)).drew⟩
  rfl
set_option maxHeartbeats 4000000 in
set_option maxRecDepth 100000 in
theorem plain_9 (x : Rc) (iA : Option Addr) (ni ic : Nat) (nA : Option Addr) (nn nc : Nat) (w : World) (hk : x.k = 9) : Calls Try.prog 133 #[.agg (rcA x (.slice iA ni ic) (.slice nA nn nc))] w fun e w' => e = .returned (.agg (rcA (pl x) (keepS x.k (.slice iA ni ic)) (keepS x.k (.slice nA nn nc)))) ∧ Below w.heap.size w w' := by
  obtain ⟨k, t1, t2, t3, l, xs, n1, n2, n3, n4, n5, n6, n7, n8, y⟩ := x
  dsimp only at hk
  subst hk
  go_enter Try.func133, Try.ntmps133
  go_wp2_with fail
  go_region
  go_wp2
  refine bodyPost_ret (ret_rc Try.results133 _ _ (w.heap.size + 1) (pl ⟨9, t1, t2, t3, l, xs, n1, n2, n3, n4, n5, n6, n7, n8, y⟩) (.slice none 0 0) (.slice none 0 0) (by simp) (by exact mid3 w _ _ _)) rfl ⟨?_, (below2 (below2 (below_alloc _ _) (below_alloc _ _)) (below_alloc _ _)).drew⟩
  rfl
set_option maxHeartbeats 4000000 in
set_option maxRecDepth 100000 in
theorem plain_10 (x : Rc) (iA : Option Addr) (ni ic : Nat) (nA : Option Addr) (nn nc : Nat) (w : World) (hk : x.k = 10) : Calls Try.prog 133 #[.agg (rcA x (.slice iA ni ic) (.slice nA nn nc))] w fun e w' => e = .returned (.agg (rcA (pl x) (keepS x.k (.slice iA ni ic)) (keepS x.k (.slice nA nn nc)))) ∧ Below w.heap.size w w' := by
  obtain ⟨k, t1, t2, t3, l, xs, n1, n2, n3, n4, n5, n6, n7, n8, y⟩ := x
  dsimp only at hk
  subst hk
  go_enter Try.func133, Try.ntmps133
  go_wp2_with fail
  go_region
  go_wp2
  refine bodyPost_ret (ret_rc Try.results133 _ _ (w.heap.size + 1) (pl ⟨10, t1, t2, t3, l, xs, n1, n2, n3, n4, n5, n6, n7, n8, y⟩) (.slice none 0 0) (.slice none 0 0) (by simp) (by exact mid3 w _ _ _)) rfl ⟨?_, (below2 (below2 (below_alloc _ _) (below_alloc _ _)) (below_alloc _ _)).drew⟩
  rfl
set_option maxHeartbeats 4000000 in
set_option maxRecDepth 100000 in
theorem plain_11 (x : Rc) (iA : Option Addr) (ni ic : Nat) (nA : Option Addr) (nn nc : Nat) (w : World) (hk : x.k = 11) : Calls Try.prog 133 #[.agg (rcA x (.slice iA ni ic) (.slice nA nn nc))] w fun e w' => e = .returned (.agg (rcA (pl x) (keepS x.k (.slice iA ni ic)) (keepS x.k (.slice nA nn nc)))) ∧ Below w.heap.size w w' := by
  obtain ⟨k, t1, t2, t3, l, xs, n1, n2, n3, n4, n5, n6, n7, n8, y⟩ := x
  dsimp only at hk
  subst hk
  go_enter Try.func133, Try.ntmps133
  go_wp2_with fail
  go_region
  go_wp2
  refine bodyPost_ret (ret_rc Try.results133 _ _ (w.heap.size + 1) (pl ⟨11, t1, t2, t3, l, xs, n1, n2, n3, n4, n5, n6, n7, n8, y⟩) (.slice none 0 0) (.slice none 0 0) (by simp) (by exact mid3 w _ _ _)) rfl ⟨?_, (below2 (below2 (below_alloc _ _) (below_alloc _ _)) (below_alloc _ _)).drew⟩
  rfl
set_option maxHeartbeats 4000000 in
set_option maxRecDepth 100000 in
theorem plain_o (x : Rc) (iA : Option Addr) (ni ic : Nat) (nA : Option Addr) (nn nc : Nat) (w : World) (h1 : ¬ x.k = 1) (h2 : ¬ x.k = 2) (h3 : ¬ x.k = 3) (h4 : ¬ x.k = 4) (h5 : ¬ x.k = 5) (h6 : ¬ x.k = 6) (h7 : ¬ x.k = 7) (h8 : ¬ x.k = 8) (h9 : ¬ x.k = 9) (h10 : ¬ x.k = 10) (h11 : ¬ x.k = 11) : Calls Try.prog 133 #[.agg (rcA x (.slice iA ni ic) (.slice nA nn nc))] w fun e w' => e = .returned (.agg (rcA (pl x) (keepS x.k (.slice iA ni ic)) (keepS x.k (.slice nA nn nc)))) ∧ Below w.heap.size w w' := by
  obtain ⟨k, t1, t2, t3, l, xs, n1, n2, n3, n4, n5, n6, n7, n8, y⟩ := x
  dsimp only at h1 h2 h3 h4 h5 h6 h7 h8 h9 h10 h11
  have hp : Hid (pl ⟨k, t1, t2, t3, l, xs, n1, n2, n3, n4, n5, n6, n7, n8, y⟩ = zr k) := Lib.hid (by simp [pl, h1, h2, h3, h4, h5, h6, h7, h8, h9, h10, h11])
  have H4 := Lib.hid h4
  have H5 := Lib.hid h5
  go_enter Try.func133, Try.ntmps133
  go_wp2_with fail
  refine bodyPost_ret (ret_rc Try.results133 _ _ (w.heap.size + 1) (zr k) (.slice none 0 0) (.slice none 0 0) (by simp) (by exact mid3 w _ _ _)) rfl ⟨?_, (below2 (below2 (below_alloc _ _) (below_alloc _ _)) (below_alloc _ _))⟩
  rw [hp.out]; simp [keepS, H4.out, H5.out]
end Go.Proofs.Ytfpocddpnoighaa.Rc

/- record: plain, kind by kind. -/
namespace Go.Proofs.Ytfpocddpnoighaa.Rc
open Go.RowKit Go.Proofs.Ytfpocddpnoighaa.L Go.Proofs.Ytfpocddpnoighaa.O Go.Proofs.Ytfpocddpnoighaa.A Go.Proofs.Ytfpocddpnoighaa.R Go.Proofs.Ytfpocddpnoighaa.S Go.Proofs.Ytfpocddpnoighaa.T Go.Proofs.Ytfpocddpnoighaa.E Go.Proofs.Ytfpocddpnoighaa.F Go.Proofs.Ytfpocddpnoighaa.It
open Go.Proofs.Ytfpocddpnoighaa.Wr hiding str str_size str_list
set_option linter.unusedVariables false
set_option linter.unusedSimpArgs false

theorem plain_any (x : Rc) (iA : Option Addr) (ni ic : Nat) (nA : Option Addr) (nn nc : Nat) (w : World) : Calls Try.prog 133 #[.agg (rcA x (.slice iA ni ic) (.slice nA nn nc))] w fun e w' => e = .returned (.agg (rcA (pl x) (keepS x.k (.slice iA ni ic)) (keepS x.k (.slice nA nn nc)))) ∧ Below w.heap.size w w' := by
  by_cases h1 : x.k = 1
  · exact plain_1 x _ _ _ _ _ _ w h1
  by_cases h2 : x.k = 2
  · exact plain_2 x _ _ _ _ _ _ w h2
  by_cases h3 : x.k = 3
  · exact plain_3 x _ _ _ _ _ _ w h3
  by_cases h4 : x.k = 4
  · exact plain_4 x _ _ _ _ _ _ w h4
  by_cases h5 : x.k = 5
  · exact plain_5 x _ _ _ _ _ _ w h5
  by_cases h6 : x.k = 6
  · exact plain_6 x _ _ _ _ _ _ w h6
  by_cases h7 : x.k = 7
  · exact plain_7 x _ _ _ _ _ _ w h7
  by_cases h8 : x.k = 8
  · exact plain_8 x _ _ _ _ _ _ w h8
  by_cases h9 : x.k = 9
  · exact plain_9 x _ _ _ _ _ _ w h9
  by_cases h10 : x.k = 10
  · exact plain_10 x _ _ _ _ _ _ w h10
  by_cases h11 : x.k = 11
  · exact plain_11 x _ _ _ _ _ _ w h11
  exact plain_o x _ _ _ _ _ _ w h1 h2 h3 h4 h5 h6 h7 h8 h9 h10 h11
end Go.Proofs.Ytfpocddpnoighaa.Rc

/- record: in, placed, rightCell, bare. -/
namespace Go.Proofs.Ytfpocddpnoighaa.Rc
open Go.RowKit Go.Proofs.Ytfpocddpnoighaa.L Go.Proofs.Ytfpocddpnoighaa.O Go.Proofs.Ytfpocddpnoighaa.A Go.Proofs.Ytfpocddpnoighaa.R Go.Proofs.Ytfpocddpnoighaa.S Go.Proofs.Ytfpocddpnoighaa.T Go.Proofs.Ytfpocddpnoighaa.E Go.Proofs.Ytfpocddpnoighaa.F Go.Proofs.Ytfpocddpnoighaa.It
open Go.Proofs.Ytfpocddpnoighaa.Wr hiding str str_size str_list
set_option linter.unusedVariables false
set_option linter.unusedSimpArgs false

theorem rc_f {W : World} {g : Nat} {x : Rc} {I N : Value} {T : TypeId} (h : W.heap[g]? = some (.cells (rcA x I N) T (0, 0))) :
    W.cell? ⟨g, 0, none⟩ = some (.int .i64 x.k) ∧ W.cell? ⟨g, 1, none⟩ = some (.int .i64 x.t1) ∧ W.cell? ⟨g, 2, none⟩ = some (.int .i64 x.t2) ∧ W.cell? ⟨g, 3, none⟩ = some (.int .i64 x.t3) ∧ W.cell? ⟨g, 4, none⟩ = some I ∧ W.cell? ⟨g, 5, none⟩ = some N ∧
    W.cell? ⟨g, 6, none⟩ = some (.int .i64 x.n1) ∧ W.cell? ⟨g, 7, none⟩ = some (.int .i64 x.n2) ∧ W.cell? ⟨g, 8, none⟩ = some (.int .i64 x.n3) ∧ W.cell? ⟨g, 9, none⟩ = some (.int .i64 x.n4) ∧ W.cell? ⟨g, 10, none⟩ = some (.int .i64 x.n5) ∧ W.cell? ⟨g, 11, none⟩ = some (.int .i64 x.n6) ∧ W.cell? ⟨g, 12, none⟩ = some (.int .i64 x.n7) ∧ W.cell? ⟨g, 13, none⟩ = some (.int .i64 x.n8) ∧ W.cell? ⟨g, 14, none⟩ = some (.bool x.y) :=
  ⟨(rc_cells h 0).1, (rc_cells h 1).1, (rc_cells h 2).1, (rc_cells h 3).1, (rc_cells h 4).1, (rc_cells h 5).1, (rc_cells h 6).1, (rc_cells h 7).1, (rc_cells h 8).1, (rc_cells h 9).1, (rc_cells h 10).1, (rc_cells h 11).1, (rc_cells h 12).1, (rc_cells h 13).1, (rc_cells h 14).1⟩
theorem btw_no1 {a b x : Int} (h : ¬ a ≤ x) : btw a b x = false := by simp [btw, h]
theorem btw_no2 {a b x : Int} (h : ¬ x ≤ b) : btw a b x = false := by simp [btw, h]
theorem btw_yes {a b x : Int} (h : a ≤ x) (h2 : x ≤ b) : btw a b x = true := by simp [btw, h, h2]
set_option maxHeartbeats 1000000 in
theorem inr_any (n lo hi : Int) (w : World) (q : Bool) (hq : btw lo hi n = q) : Calls Try.prog 105 #[.int .i64 n, .int .i64 lo, .int .i64 hi] w fun e w' => e = .returned (.bool q) ∧ w = w' := by
  by_cases h1 : lo ≤ n
  case neg =>
    have e0 : Hid (q = false) := Lib.hid (by rw [← hq]; exact btw_no1 h1)
    clear hq
    go_enter Try.func105, Try.ntmps105
    go_wp2
    go_ret
    exact ⟨retbf e0.out, rfl⟩
  by_cases h2 : n ≤ hi
  case neg =>
    have e0 : Hid (q = false) := Lib.hid (by rw [← hq]; exact btw_no2 h2)
    clear hq
    go_enter Try.func105, Try.ntmps105
    go_wp2
    go_ret
    exact ⟨retbf e0.out, rfl⟩
  have e0 : Hid (q = true) := Lib.hid (by rw [← hq]; exact btw_yes h1 h2)
  clear hq
  go_enter Try.func105, Try.ntmps105
  go_wp2
  go_ret
  exact ⟨retb e0.out, rfl⟩
set_option maxHeartbeats 1000000 in
theorem placed_any (x : Rc) (iA : Option Addr) (ni ic : Nat) (nA : Option Addr) (nn nc : Nat) (least : Int) (w : World) (q : Bool) (hq : placedB x least = q) : Calls Try.prog 107 #[.agg (rcA x (.slice iA ni ic) (.slice nA nn nc)), .int .i64 least] w fun e w' => e = .returned (.bool q) ∧ Below w.heap.size w w' := by
  obtain ⟨c1, hc1⟩ : ∃ c, Hid (btw 0 15 x.n4 = c) := ⟨_, Lib.hid rfl⟩
  obtain ⟨c2, hc2⟩ : ∃ c, Hid (btw least 1099511627776 x.n6 = c) := ⟨_, Lib.hid rfl⟩
  have hres : Hid (q = (c1 && c2)) := Lib.hid (by rw [← hc1.out, ← hc2.out, ← hq]; rfl)
  clear hq
  obtain ⟨k, t1, t2, t3, l, xs, n1, n2, n3, n4, n5, n6, n7, n8, y⟩ := x
  go_enter Try.func107, Try.ntmps107
  go_wp2_with fail
  refine (inr_any n4 0 15 _ c1 hc1.out).mono ?_
  rintro e w1 ⟨rfl, rfl⟩
  cases c1
  · go_wp2
    go_ret
    exact ⟨retbf hres.out, below_alloc _ _⟩
  · go_wp2_with fail
    refine (inr_any n6 least 1099511627776 _ c2 hc2.out).mono ?_
    rintro e w1 ⟨rfl, rfl⟩
    go_wp2
    go_ret
    exact ⟨retv (congrArg Value.bool hres.out.symm), below_alloc _ _⟩
/-- a record's own block, kept. -/
def RcAt (g : Nat) (x : Rc) (I N : Value) (W : World) : Prop := W.heap[g]? = some (.cells (rcA x I N) 89 (0, 0))
theorem rcAt_new (w : World) (x : Rc) (I N : Value) : RcAt w.heap.size x I N (w.alloc (.cells (rcA x I N) 89)) := heap_alloc_new _ _
theorem RcAt.below {g : Nat} {x : Rc} {I N : Value} {W W' : World} (h : RcAt g x I N W) (hb : Below W.heap.size W W') : RcAt g x I N W' := keep_block (.of_below (S := []) hb) h (by simp)
set_option maxHeartbeats 4000000 in
set_option maxRecDepth 100000 in
theorem rightCell_any (x : Rc) (iA : Option Addr) (ni ic : Nat) (nA : Option Addr) (nn nc : Nat) (w : World) (q : Bool) (hq : cellB x = q) : Calls Try.prog 106 #[.agg (rcA x (.slice iA ni ic) (.slice nA nn nc))] w fun e w' => e = .returned (.bool q) ∧ Below w.heap.size w w' := by
  obtain ⟨c0, hc0⟩ : ∃ c, Hid ((if x.n5 = 2 then btw 1 16 x.n1 else x.n1 == 0) = c) := ⟨_, Lib.hid rfl⟩
  obtain ⟨c1, hc1⟩ : ∃ c, Hid (placedB x 0 = c) := ⟨_, Lib.hid rfl⟩
  obtain ⟨c2, hc2⟩ : ∃ c, Hid (btw 0 2 x.n5 = c) := ⟨_, Lib.hid rfl⟩
  obtain ⟨c3, hc3⟩ : ∃ c, Hid (btw 0 1099511627776 x.n7 = c) := ⟨_, Lib.hid rfl⟩
  have hres : Hid (q = (c0 && (c1 && (c2 && c3)))) := Lib.hid (by rw [← hc0.out, ← hc1.out, ← hc2.out, ← hc3.out, ← hq]; rfl)
  have HP := Lib.hid (fun W => placed_any x iA ni ic nA nn nc 0 W c1 hc1.out)
  clear hq
  obtain ⟨g, hg⟩ : ∃ g, Hid (w.heap.size = g) := ⟨_, Lib.hid rfl⟩
  obtain ⟨W0, hW0⟩ : ∃ W0, Hid (w.alloc (.cells (rcA x (.slice iA ni ic) (.slice nA nn nc)) 89) = W0) := ⟨_, Lib.hid rfl⟩
  have hb0 : Hid (Below w.heap.size w W0) := Lib.hid (by rw [← hW0.out]; exact below_alloc _ _)
  have HG : Hid (RcAt g x (.slice iA ni ic) (.slice nA nn nc) W0) := Lib.hid (by rw [← hW0.out, ← hg.out]; exact rcAt_new _ _ _ _)
  obtain ⟨k, t1, t2, t3, l, xs, n1, n2, n3, n4, n5, n6, n7, n8, y⟩ := x
  dsimp only [rcA] at hW0
  go_enter Try.func106, Try.ntmps106
  by_cases h5 : n5 = 2
  · subst h5
    go_wp2_with fail
    rw [hW0.out, hg.out]
    refine (inr_any n1 1 16 _ c0 (by have := hc0.out; simpa using this)).mono ?_
    rintro e w1 ⟨rfl, rfl⟩
    obtain ⟨f0, f1, f2, f3, f4, f5, f6, f7, f8, f9, f10, f11, f12, f13, f14⟩ := rc_f HG.out
    dsimp only at f0 f1 f2 f3 f4 f5 f6 f7 f8 f9 f10 f11 f12 f13 f14
    cases c0
    · go_wp2
      go_ret
      exact ⟨retbf hres.out, hb0.out⟩
    · go_wp2_with fail
      clear f0 f1 f2 f3 f4 f5 f6 f7 f8 f9 f10 f11 f12 f13 f14
      refine (HP.out W0).mono ?_
      rintro e w1 ⟨rfl, hb1⟩
      have HB1 := Lib.hid (below2 hb0.out hb1)
      obtain ⟨f0, f1, f2, f3, f4, f5, f6, f7, f8, f9, f10, f11, f12, f13, f14⟩ := rc_f (HG.out.below hb1)
      dsimp only at f0 f1 f2 f3 f4 f5 f6 f7 f8 f9 f10 f11 f12 f13 f14
      clear hb1
      cases c1
      · go_wp2
        go_ret
        exact ⟨retbf hres.out, HB1.out⟩
      · go_wp2_with fail
        refine (inr_any 2 0 2 _ c2 hc2.out).mono ?_
        rintro e w2 ⟨rfl, rfl⟩
        cases c2
        · go_wp2
          go_ret
          exact ⟨retbf hres.out, HB1.out⟩
        · go_wp2_with fail
          refine (inr_any n7 0 1099511627776 _ c3 hc3.out).mono ?_
          rintro e w2 ⟨rfl, rfl⟩
          go_wp2
          go_ret
          exact ⟨retv (congrArg Value.bool hres.out.symm), HB1.out⟩
  · have hc0' : Hid ((n1 == 0) = c0) := Lib.hid (by have := hc0.out; simpa [h5] using this)
    by_cases h1 : n1 = 0
    · subst h1
      obtain rfl : c0 = true := by have := hc0'.out; simpa using this.symm
      go_wp2_with fail
      rw [hW0.out, hg.out]
      refine (HP.out W0).mono ?_
      rintro e w1 ⟨rfl, hb1⟩
      have HB1 := Lib.hid (below2 hb0.out hb1)
      obtain ⟨f0, f1, f2, f3, f4, f5, f6, f7, f8, f9, f10, f11, f12, f13, f14⟩ := rc_f (HG.out.below hb1)
      dsimp only at f0 f1 f2 f3 f4 f5 f6 f7 f8 f9 f10 f11 f12 f13 f14
      clear hb1
      cases c1
      · go_wp2
        go_ret
        exact ⟨retbf hres.out, HB1.out⟩
      · go_wp2_with fail
        refine (inr_any n5 0 2 _ c2 hc2.out).mono ?_
        rintro e w2 ⟨rfl, rfl⟩
        cases c2
        · go_wp2
          go_ret
          exact ⟨retbf hres.out, HB1.out⟩
        · go_wp2_with fail
          refine (inr_any n7 0 1099511627776 _ c3 hc3.out).mono ?_
          rintro e w2 ⟨rfl, rfl⟩
          go_wp2
          go_ret
          exact ⟨retv (congrArg Value.bool hres.out.symm), HB1.out⟩
    · obtain rfl : c0 = false := by have := hc0'.out; rw [← this]; simpa using h1
      go_wp2
      go_ret
      exact ⟨retbf hres.out, below_alloc _ _⟩
end Go.Proofs.Ytfpocddpnoighaa.Rc

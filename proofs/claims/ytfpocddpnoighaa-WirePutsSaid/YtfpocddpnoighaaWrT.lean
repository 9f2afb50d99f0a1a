/- WirePuts: a writer and a row side by side; a reader and a row. -/
import Derived.Test.YtfpocddpnoighaaWrQ
namespace Go.Proofs.Ytfpocddpnoighaa.Wr
open Go.RowKit Go.Proofs.Ytfpocddpnoighaa.L Go.Proofs.Ytfpocddpnoighaa.O Go.Proofs.Ytfpocddpnoighaa.A Go.Proofs.Ytfpocddpnoighaa.S Go.Proofs.Ytfpocddpnoighaa.T Go.Proofs.Ytfpocddpnoighaa.E
set_option linter.unusedVariables false
set_option linter.unusedSimpArgs false

/-- a writer, a row of things, blocks of other things. -/
structure PW (w0 W : World) (pr : List (Nat × Obj)) (b : Nat) (bs : List UInt8) (bad : Bool) (v : Value) (kn : Nat) (xs : List Value) : Prop where
  low : Below w0.heap.size w0 W
  row : W.ownsRow w0.heap.size 32 3 v kn xs
  out : ∃ r, Wr W b r bs bad ∧ (∀ k ∈ blks b r, w0.heap.size ≤ k ∧ v.ownBlock ≠ some k) ∧ ∀ p ∈ pr, W.heap[p.1]? = some p.2 ∧ p.1 ∉ blks b r ∧ v.ownBlock ≠ some p.1
section
variable {w0 W W' : World} {pr : List (Nat × Obj)} {b : Nat} {bs bs' : List UInt8} {bad bad' : Bool} {v : Value} {kn : Nat} {xs : List Value}
theorem PW.below (h : PW w0 W pr b bs bad v kn xs) (hb : Below W.heap.size W W') : PW w0 W' pr b bs bad v kn xs := by
  obtain ⟨r, h1, h2, h3⟩ := h.out
  exact ⟨below2 h.low hb, own_kept h.row hb, r, h1.below hb, h2, fun p hp => ⟨keep_block (.of_below (S := []) hb) (h3 p hp).1 (by simp), (h3 p hp).2⟩⟩
theorem PW.lay (h : PW w0 W pr b bs bad v kn xs) (o : Obj) : PW w0 (W.alloc o) ((W.heap.size, o) :: pr) b bs bad v kn xs := by
  have hb := below_alloc W o
  obtain ⟨r, h1, h2, h3⟩ := h.out
  refine ⟨below2 h.low hb, own_kept h.row hb, r, h1.below hb, h2, fun p hp => ?_⟩
  rcases List.mem_cons.1 hp with rfl | hp
  · exact ⟨heap_alloc_new _ _, fun hk => Nat.lt_irrefl _ (h1.lts _ hk), fun e => Nat.lt_irrefl _ (h.row.lt _ e).2⟩
  · exact ⟨keep_block (.of_below (S := []) hb) (h3 p hp).1 (by simp), (h3 p hp).2⟩
theorem PW.drop (h : PW w0 W pr b bs bad v kn xs) : PW w0 W [] b bs bad v kn xs := by
  obtain ⟨r, h1, h2, h3⟩ := h.out
  exact ⟨h.low, h.row, r, h1, h2, by simp⟩
theorem PW.got (h : PW w0 W pr b bs bad v kn xs) {g : Nat} {o : Obj} (hm : (g, o) ∈ pr) : W.heap[g]? = some o := by
  obtain ⟨r, h1, h2, h3⟩ := h.out
  exact (h3 _ hm).1
theorem PW.write {fn : FuncId} {args : Array Value} {E : Ending → Prop} (h : PW w0 W pr b bs bad v kn xs)
    (c : ∀ r, Wr W b r bs bad → Calls Try.prog fn args W fun e w' => E e ∧ Wrs W b (blks b r) bs' bad' w') : Calls Try.prog fn args W fun e w' => E e ∧ PW w0 w' pr b bs' bad' v kn xs := by
  obtain ⟨r, h1, h2, h3⟩ := h.out
  refine (c r h1).mono fun e w' ⟨he, hw⟩ => ⟨he, ?_⟩
  obtain ⟨r2, k1, k2⟩ := hw.out
  refine ⟨h.low.trans (hw.keep.below h.low.size fun x hx => (h2 x hx).1), own_keep h.row hw.keep fun k hk hm => (h2 k hm).2 hk, r2, k1, fun k hk => ?_, fun p hp => ?_⟩
  · rcases mem_blks.1 hk with rfl | hk
    · exact h2 k (mem_blks.2 (.inl rfl))
    · rcases k2 k hk with h4 | h4
      · exact h2 k h4
      · exact ⟨Nat.le_trans h.low.size h4, fun e => by have := (h.row.lt _ e).2; omega⟩
  · obtain ⟨p1, p2, p3⟩ := h3 p hp
    refine ⟨keep_block hw.keep p1 p2, fun hk => ?_, p3⟩
    have hlt := (Array.getElem?_eq_some_iff.1 p1).1
    rcases mem_blks.1 hk with e | hk
    · exact p2 (mem_blks.2 (.inl e))
    · rcases k2 _ hk with h4 | h4
      · exact p2 h4
      · omega
theorem PW.append {v' : Value} {kn' : Nat} {xs' : List Value} (h : PW w0 W pr b bs bad v kn xs) (ho : W'.ownsRow w0.heap.size 32 3 v' kn' xs') (hg : W.grownBy W' v.ownBlock) (hv : v'.ownBlock = v.ownBlock ∨ v'.ownBlock = some W.heap.size) : PW w0 W' pr b bs bad v' kn' xs' := by
  obtain ⟨r, h1, h2, h3⟩ := h.out
  have hk : Keep v.ownBlock.toList W W' := keep_grown hg _ fun k hk _ => by rw [hk]; simp
  have hne : ∀ k, k < W.heap.size → v.ownBlock ≠ some k → v'.ownBlock ≠ some k := fun k hk hn => by
    rcases hv with e | e
    · rw [e]; exact hn
    · rw [e]; intro e2; injection e2 with e2; omega
  refine ⟨h.low.trans (hk.below h.low.size fun x hx => (h.row.lt x (by simpa using hx)).1), ho, r, h1.other hk (fun k hk1 hk2 => (h2 k hk1).2 (by simpa using hk2)), fun k hk1 => ⟨(h2 k hk1).1, hne k (h1.lts k hk1) (h2 k hk1).2⟩, fun p hp => ?_⟩
  obtain ⟨p1, p2, p3⟩ := h3 p hp
  exact ⟨keep_block hk p1 (by simpa using p3), p2, hne _ (Array.getElem?_eq_some_iff.1 p1).1 p3⟩
theorem PW.f (h : PW w0 W pr b bs bad v kn xs) : ∃ r, WrF W b r bs bad ∧ ∀ k ∈ blks b r, w0.heap.size ≤ k ∧ v.ownBlock ≠ some k := by
  obtain ⟨r, h1, h2, h3⟩ := h.out
  exact ⟨r, h1.f, h2⟩
end
/-- a reader, a row of things, blocks of other things. -/
structure RK (w0 W : World) (pr : List (Nat × Obj)) (b : Nat) (s : ByteArray) (q : Bool) (v : Value) (kn : Nat) (xs : List Value) : Prop where
  low : Below w0.heap.size w0 W
  rd : Rdr W b s q
  ge : w0.heap.size ≤ b
  row : W.ownsRow w0.heap.size 32 3 v kn xs
  ne : v.ownBlock ≠ some b
  prs : ∀ p ∈ pr, W.heap[p.1]? = some p.2 ∧ p.1 ≠ b
section
variable {w0 W W' : World} {pr : List (Nat × Obj)} {b : Nat} {s s' : ByteArray} {q q' : Bool} {v : Value} {kn : Nat} {xs : List Value}
theorem RK.below (h : RK w0 W pr b s q v kn xs) (hb : Below W.heap.size W W') : RK w0 W' pr b s q v kn xs :=
  ⟨below2 h.low hb, h.rd.below hb, h.ge, own_kept h.row hb, h.ne, fun p hp => ⟨keep_block (.of_below (S := []) hb) (h.prs p hp).1 (by simp), (h.prs p hp).2⟩⟩
theorem RK.lay (h : RK w0 W pr b s q v kn xs) (o : Obj) : RK w0 (W.alloc o) ((W.heap.size, o) :: pr) b s q v kn xs := by
  have hb := below_alloc W o
  refine ⟨below2 h.low hb, h.rd.below hb, h.ge, own_kept h.row hb, h.ne, fun p hp => ?_⟩
  rcases List.mem_cons.1 hp with rfl | hp
  · exact ⟨heap_alloc_new _ _, fun e => Nat.lt_irrefl _ (by have := h.rd.lt; rw [← e] at this; exact this)⟩
  · exact ⟨keep_block (.of_below (S := []) hb) (h.prs p hp).1 (by simp), (h.prs p hp).2⟩
theorem RK.drop (h : RK w0 W pr b s q v kn xs) : RK w0 W [] b s q v kn xs := ⟨h.low, h.rd, h.ge, h.row, h.ne, by simp⟩
theorem RK.got (h : RK w0 W pr b s q v kn xs) {g : Nat} {o : Obj} (hm : (g, o) ∈ pr) : W.heap[g]? = some o := (h.prs _ hm).1
theorem RK.read {fn : FuncId} {args : Array Value} {E : Ending → Prop} (h : RK w0 W pr b s q v kn xs)
    (c : Rdr W b s q → Calls Try.prog fn args W fun e w' => E e ∧ Rds W b s' q' w') : Calls Try.prog fn args W fun e w' => E e ∧ RK w0 w' pr b s' q' v kn xs := by
  refine (c h.rd).mono fun e w' ⟨he, hr, hk⟩ => ⟨he, h.low.trans (hk.below h.low.size (by simpa using h.ge)), hr, h.ge, own_keep h.row hk (fun k hk1 hk2 => h.ne (by rw [hk1]; simpa using hk2)), h.ne, fun p hp => ⟨keep_block hk (h.prs p hp).1 (by simpa using (h.prs p hp).2), (h.prs p hp).2⟩⟩
end
/-- a row of things, cell by cell. -/
def encTs (l : List Th) : List Value := l.flatMap encTh
theorem encTs_len (l : List Th) : (encTs l).length = l.length * 3 := by
  induction l with
  | nil => rfl
  | cons x l ih => simp only [encTs, List.flatMap_cons, List.length_append, List.length_cons] at ih ⊢; rw [ih]; simp [encTh]; omega
theorem encTs_take (l : List Th) (k : Nat) (h : k < l.length) : encTs (l.take (k + 1)) = encTs (l.take k) ++ encTh l[k] := by
  rw [List.take_succ_eq_append_getElem h]; simp only [encTs, List.flatMap_append, List.flatMap_cons, List.flatMap_nil, List.append_nil]
theorem encTs_at : ∀ (l : List Th) (k j : Nat) (h : k < l.length), j < 3 → (encTs l)[k * 3 + j]? = (encTh l[k])[j]?
  | x :: l, 0, j, _, hj => by
    simp only [encTs, List.flatMap_cons, List.getElem_cons_zero]
    rw [List.getElem?_append_left (by simp [encTh]; omega)]
    simp
  | x :: l, k + 1, j, h, hj => by
    have ih := encTs_at l k j (by simpa using h) hj
    simp only [encTs, List.flatMap_cons, List.getElem_cons_succ] at ih ⊢
    rw [List.getElem?_append_right (by simp [encTh]; omega), ← ih]
    congr 1
    simp [encTh]
    omega
theorem RK.cells {w0 W : World} {pr : List (Nat × Obj)} {b : Nat} {s : ByteArray} {q : Bool} {v : Value} {l : List Th} {n : Nat} (h : RK w0 W pr b s q v n (encTs l)) (k : Nat) (hk : k < n) (hkl : k < l.length) (x : Th) (hx : l[k] = x) : ∃ g c, v = .slice (some ⟨g, 0, none⟩) n c ∧
    W.cell? ⟨g, k * 3, none⟩ = some (.int .i64 x.k) ∧ W.cell? ⟨g, k * 3 + 1, none⟩ = some (.int .i64 x.n) ∧ W.cell? ⟨g, k * 3 + 2, none⟩ = some (.string x.s) := by
  subst hx
  rcases h.row.2 with ⟨_, h0⟩ | ⟨g, cap, cur, hv, hb, hg, hn, hm, hs, ht⟩
  · omega
  · refine ⟨g, cap, hv, ?_⟩
    have hc : ∀ j, j < 3 → W.cell? ⟨g, k * 3 + j, none⟩ = (encTh l[k])[j]? := fun j hj => by
      rw [cell_of_row _ _ _ _ _ _ hg, ← encTs_at l k j hkl hj, ← ht, List.getElem?_take_of_lt (by omega), Array.getElem?_toList]
    exact ⟨hc 0 (by omega), hc 1 (by omega), hc 2 (by omega)⟩
end Go.Proofs.Ytfpocddpnoighaa.Wr

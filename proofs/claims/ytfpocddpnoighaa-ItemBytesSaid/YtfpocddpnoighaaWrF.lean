/- wire: what is put, in plain lists; several writers side by side. -/
import Derived.Test.YtfpocddpnoighaaWrE
namespace Go.Proofs.Ytfpocddpnoighaa.Wr
open Go.RowKit Go.Proofs.Ytfpocddpnoighaa.L Go.Proofs.Ytfpocddpnoighaa.O Go.Proofs.Ytfpocddpnoighaa.A Go.Proofs.Ytfpocddpnoighaa.S Go.Proofs.Ytfpocddpnoighaa.T Go.Proofs.Ytfpocddpnoighaa.E
set_option linter.unusedVariables false
set_option linter.unusedSimpArgs false

def wireB (l : List Th) : List UInt8 := l.flatMap putB
def wireBad (l : List Th) : Bool := l.any fun x => !putOk x
theorem wireB_take (l : List Th) (k : Nat) (h : k < l.length) : wireB (l.take (k + 1)) = wireB (l.take k) ++ putB l[k] := by
  rw [List.take_succ_eq_append_getElem h]; simp only [wireB, List.flatMap_append, List.flatMap_cons, List.flatMap_nil, List.append_nil]
theorem wireBad_take (l : List Th) (k : Nat) (h : k < l.length) : wireBad (l.take (k + 1)) = (wireBad (l.take k) || !putOk l[k]) := by
  rw [List.take_succ_eq_append_getElem h]; simp only [wireBad, List.any_append, List.any_cons, List.any_nil, Bool.or_false]
theorem len_text (s : ByteArray) : (textB s).length ≤ 2 + s.size := by
  unfold textB
  split
  · simp [len_big]
  · simp
theorem len_put (x : Th) : (putB x).length ≤ 8 + x.s.size := by
  unfold putB
  have := len_text x.s
  split
  · simp; omega
  split
  · simp; omega
  split
  · split <;> simp [len_big]; omega
  split
  · simp [len_big]
  split
  · omega
  · simp
theorem len_wire (l : List Th) : (wireB l).length ≤ 8 * l.length + tot l := by
  induction l with
  | nil => simp [wireB, tot]
  | cons x l ih =>
    have h1 := len_put x
    have e1 : wireB (x :: l) = putB x ++ wireB l := by simp [wireB]
    have e2 : tot (x :: l) = x.s.size + tot l := rfl
    rw [e1, e2, List.length_append, List.length_cons]
    omega
theorem len_wire_take (l : List Th) (k : Nat) (hk : k < l.length) (h1 : l.length ≤ 100) (h2 : tot l ≤ 200000) : (wireB (l.take k)).length + 10 + l[k].s.size ≤ 201000 := by
  have h3 := len_wire (l.take k)
  have h4 := tot_take l k hk
  have h5 := tot_le l (k + 1)
  simp only [List.length_take] at h3
  omega

/-! ### writers side by side -/
def Apart (b : Nat) (r : Option Nat) (b' : Nat) (r' : Option Nat) : Prop := ∀ k, k ∈ blks b r → k ∉ blks b' r'
theorem Apart.symm {b b' : Nat} {r r' : Option Nat} (h : Apart b r b' r') : Apart b' r' b r := fun k h1 h2 => h k h2 h1
theorem Wr.lts {w : World} {b : Nat} {r : Option Nat} {bs : List UInt8} {bad : Bool} (h : Wr w b r bs bad) : ∀ k ∈ blks b r, k < w.heap.size := fun k hk => by
  rcases mem_blks.1 hk with rfl | hk
  · exact h.lt.1
  · exact h.lt.2 k hk
theorem Wr.other {w w' : World} {S : List Nat} {b : Nat} {r : Option Nat} {bs : List UInt8} {bad : Bool} (h : Wr w b r bs bad) (hk : Keep S w w') (ha : ∀ k ∈ blks b r, k ∉ S) : Wr w' b r bs bad :=
  h.keep hk (ha b (mem_blks.2 (.inl rfl))) fun k hr => ha k (mem_blks.2 (.inr hr))
theorem apart_new {w : World} {b b' : Nat} {r r2 r' : Option Nat} (h : Apart b r b' r') (hl : ∀ k ∈ blks b' r', k < w.heap.size) (h2 : ∀ k, r2 = some k → k ∈ blks b r ∨ w.heap.size ≤ k) : Apart b r2 b' r' := by
  intro k hk hk'
  rcases mem_blks.1 hk with rfl | hk
  · exact h k (mem_blks.2 (.inl rfl)) hk'
  · rcases h2 k hk with h3 | h3
    · exact h k h3 hk'
    · have := hl k hk'; omega
/-- three writers, of the call's own; and blocks of other things. -/
structure Tri (w0 W : World) (pr : List (Nat × Obj)) (bv bw bx : Nat) (sv sw sx : List UInt8) (fv fw fx : Bool) : Prop where
  low : Below w0.heap.size w0 W
  out : ∃ rv rw rx, Wr W bv rv sv fv ∧ Wr W bw rw sw fw ∧ Wr W bx rx sx fx ∧ Apart bv rv bw rw ∧ Apart bv rv bx rx ∧ Apart bw rw bx rx ∧ (∀ k, k ∈ blks bv rv ∨ k ∈ blks bw rw ∨ k ∈ blks bx rx → w0.heap.size ≤ k) ∧
    ∀ p ∈ pr, W.heap[p.1]? = some p.2 ∧ p.1 ∉ blks bv rv ∧ p.1 ∉ blks bw rw ∧ p.1 ∉ blks bx rx
theorem Tri.below {w0 W W' : World} {pr : List (Nat × Obj)} {bv bw bx : Nat} {sv sw sx : List UInt8} {fv fw fx : Bool} (h : Tri w0 W pr bv bw bx sv sw sx fv fw fx) (hb : Below W.heap.size W W') : Tri w0 W' pr bv bw bx sv sw sx fv fw fx := by
  obtain ⟨rv, rw, rx, h1, h2, h3, a1, a2, a3, hl, hp⟩ := h.out
  exact ⟨below2 h.low hb, rv, rw, rx, h1.below hb, h2.below hb, h3.below hb, a1, a2, a3, hl, fun p hm => ⟨keep_block (.of_below (S := []) hb) (hp p hm).1 (by simp), (hp p hm).2⟩⟩
theorem Tri.lay {w0 W : World} {bv bw bx : Nat} {sv sw sx : List UInt8} {fv fw fx : Bool} (h : Tri w0 W [] bv bw bx sv sw sx fv fw fx) (o : Obj) : Tri w0 (W.alloc o) [(W.heap.size, o)] bv bw bx sv sw sx fv fw fx := by
  obtain ⟨rv, rw, rx, h1, h2, h3, a1, a2, a3, hl, hp⟩ := h.out
  have hb := below_alloc W o
  refine ⟨below2 h.low hb, rv, rw, rx, h1.below hb, h2.below hb, h3.below hb, a1, a2, a3, hl, fun p hm => ?_⟩
  obtain rfl : p = (W.heap.size, o) := by simpa using hm
  exact ⟨heap_alloc_new _ _, fun hk => Nat.lt_irrefl _ (h1.lts _ hk), fun hk => Nat.lt_irrefl _ (h2.lts _ hk), fun hk => Nat.lt_irrefl _ (h3.lts _ hk)⟩
theorem Tri.drop {w0 W : World} {pr : List (Nat × Obj)} {bv bw bx : Nat} {sv sw sx : List UInt8} {fv fw fx : Bool} (h : Tri w0 W pr bv bw bx sv sw sx fv fw fx) : Tri w0 W [] bv bw bx sv sw sx fv fw fx := by
  obtain ⟨rv, rw, rx, h1, h2, h3, a1, a2, a3, hl, hp⟩ := h.out
  exact ⟨h.low, rv, rw, rx, h1, h2, h3, a1, a2, a3, hl, by simp⟩
theorem Tri.got {w0 W : World} {g : Nat} {o : Obj} {bv bw bx : Nat} {sv sw sx : List UInt8} {fv fw fx : Bool} (h : Tri w0 W [(g, o)] bv bw bx sv sw sx fv fw fx) : W.heap[g]? = some o := by
  obtain ⟨rv, rw, rx, h1, h2, h3, a1, a2, a3, hl, hp⟩ := h.out
  exact (hp (g, o) (by simp)).1
theorem new_lt {w0 W : World} {b : Nat} {r r2 : Option Nat} (hs : w0.heap.size ≤ W.heap.size) (hl : ∀ k ∈ blks b r, w0.heap.size ≤ k) (h2 : ∀ k, r2 = some k → k ∈ blks b r ∨ W.heap.size ≤ k) : ∀ k ∈ blks b r2, w0.heap.size ≤ k := fun k hk => by
  rcases mem_blks.1 hk with rfl | hk
  · exact hl k (mem_blks.2 (.inl rfl))
  · rcases h2 k hk with h3 | h3
    · exact hl k h3
    · omega
theorem Tri.v {w0 W : World} {pr : List (Nat × Obj)} {bv bw bx : Nat} {sv sw sx s' : List UInt8} {fv fw fx f' : Bool} {fn : FuncId} {args : Array Value} {E : Ending → Prop} (h : Tri w0 W pr bv bw bx sv sw sx fv fw fx)
    (c : ∀ r, Wr W bv r sv fv → Calls Try.prog fn args W fun e w' => E e ∧ Wrs W bv (blks bv r) s' f' w') : Calls Try.prog fn args W fun e w' => E e ∧ Tri w0 w' pr bv bw bx s' sw sx f' fw fx := by
  obtain ⟨rv, rw, rx, h1, h2, h3, a1, a2, a3, hl, hp⟩ := h.out
  refine (c rv h1).mono fun e w' ⟨he, hw⟩ => ⟨he, ?_⟩
  obtain ⟨r2, k1, k2⟩ := hw.out
  refine ⟨h.low.trans (hw.keep.below h.low.size fun x hx => hl x (.inl hx)), r2, rw, rx, k1, h2.other hw.keep a1.symm, h3.other hw.keep a2.symm, apart_new a1 h2.lts k2, apart_new a2 h3.lts k2, a3, fun k hk => ?_, fun p hm => ?_⟩
  · rcases hk with hk | hk
    · exact new_lt h.low.size (fun x hx => hl x (.inl hx)) k2 k hk
    · exact hl k (.inr hk)
  · obtain ⟨p1, p2, p3, p4⟩ := hp p hm
    refine ⟨keep_block hw.keep p1 p2, fun hk => ?_, p3, p4⟩
    have hlt := (Array.getElem?_eq_some_iff.1 p1).1
    rcases mem_blks.1 hk with e | hk
    · exact p2 (mem_blks.2 (.inl e))
    · rcases k2 _ hk with h3 | h3
      · exact p2 h3
      · omega
theorem Tri.swap {w0 W : World} {pr : List (Nat × Obj)} {bv bw bx : Nat} {sv sw sx : List UInt8} {fv fw fx : Bool} (h : Tri w0 W pr bv bw bx sv sw sx fv fw fx) : Tri w0 W pr bw bx bv sw sx sv fw fx fv := by
  obtain ⟨rv, rw, rx, h1, h2, h3, a1, a2, a3, hl, hp⟩ := h.out
  exact ⟨h.low, rw, rx, rv, h2, h3, h1, a3, a1.symm, a2.symm, fun k hk => hl k (by rcases hk with hk | hk | hk; exact .inr (.inl hk); exact .inr (.inr hk); exact .inl hk), fun p hm => ⟨(hp p hm).1, (hp p hm).2.2.1, (hp p hm).2.2.2, (hp p hm).2.1⟩⟩
theorem Tri.w {w0 W : World} {pr : List (Nat × Obj)} {bv bw bx : Nat} {sv sw sx s' : List UInt8} {fv fw fx f' : Bool} {fn : FuncId} {args : Array Value} {E : Ending → Prop} (h : Tri w0 W pr bv bw bx sv sw sx fv fw fx)
    (c : ∀ r, Wr W bw r sw fw → Calls Try.prog fn args W fun e w' => E e ∧ Wrs W bw (blks bw r) s' f' w') : Calls Try.prog fn args W fun e w' => E e ∧ Tri w0 w' pr bv bw bx sv s' sx fv f' fx :=
  (h.swap.v c).mono fun e w' ⟨he, hw⟩ => ⟨he, hw.swap.swap⟩
theorem Tri.x {w0 W : World} {pr : List (Nat × Obj)} {bv bw bx : Nat} {sv sw sx s' : List UInt8} {fv fw fx f' : Bool} {fn : FuncId} {args : Array Value} {E : Ending → Prop} (h : Tri w0 W pr bv bw bx sv sw sx fv fw fx)
    (c : ∀ r, Wr W bx r sx fx → Calls Try.prog fn args W fun e w' => E e ∧ Wrs W bx (blks bx r) s' f' w') : Calls Try.prog fn args W fun e w' => E e ∧ Tri w0 w' pr bv bw bx sv sw s' fv fw f' :=
  (h.swap.swap.v c).mono fun e w' ⟨he, hw⟩ => ⟨he, hw.swap⟩
/-- the same, read: nothing is written any more. -/
structure TriF (w0 W : World) (bv bw bx : Nat) (sv sw sx : List UInt8) (fv fw fx : Bool) : Prop where
  low : Below w0.heap.size w0 W
  out : ∃ rv rw rx, WrF W bv rv sv fv ∧ WrF W bw rw sw fw ∧ WrF W bx rx sx fx ∧ Apart bv rv bw rw ∧ Apart bv rv bx rx ∧ Apart bw rw bx rx ∧ ∀ k, k ∈ blks bv rv ∨ k ∈ blks bw rw ∨ k ∈ blks bx rx → w0.heap.size ≤ k
theorem Tri.f {w0 W : World} {pr : List (Nat × Obj)} {bv bw bx : Nat} {sv sw sx : List UInt8} {fv fw fx : Bool} (h : Tri w0 W pr bv bw bx sv sw sx fv fw fx) : TriF w0 W bv bw bx sv sw sx fv fw fx := by
  obtain ⟨rv, rw, rx, h1, h2, h3, a1, a2, a3, hl, hp⟩ := h.out
  exact ⟨h.low, rv, rw, rx, h1.f, h2.f, h3.f, a1, a2, a3, hl⟩
theorem WrF.other {w w' : World} {S : List Nat} {b : Nat} {r : Option Nat} {bs : List UInt8} {bad : Bool} (h : WrF w b r bs bad) (hk : Keep S w w') (ha : ∀ k ∈ blks b r, k ∉ S) : WrF w' b r bs bad :=
  h.keep hk (ha b (mem_blks.2 (.inl rfl))) fun k hr => ha k (mem_blks.2 (.inr hr))
theorem sub_blks {b k : Nat} {r : Option Nat} (h : k ∈ r.toList) : k ∈ blks b r := mem_blks.2 (.inr (by simpa using h))
theorem TriF.bad {w0 W : World} {bv bw bx : Nat} {sv sw sx : List UInt8} {fv fw fx : Bool} (h : TriF w0 W bv bw bx sv sw sx fv fw fx) : Calls Try.prog 22 #[.pointer (some ⟨bv, 0, none⟩)] W fun e w' => e = .returned (.bool fv) ∧ W = w' := by
  obtain ⟨rv, rw, rx, h1, h2, h3, a1, a2, a3, hl⟩ := h.out
  exact bad_any bv rv sv fv W h1
theorem TriF.swap {w0 W : World} {bv bw bx : Nat} {sv sw sx : List UInt8} {fv fw fx : Bool} (h : TriF w0 W bv bw bx sv sw sx fv fw fx) : TriF w0 W bw bx bv sw sx sv fw fx fv := by
  obtain ⟨rv, rw, rx, h1, h2, h3, a1, a2, a3, hl⟩ := h.out
  exact ⟨h.low, rw, rx, rv, h2, h3, h1, a3, a1.symm, a2.symm, fun k hk => hl k (by rcases hk with hk | hk | hk; exact .inr (.inl hk); exact .inr (.inr hk); exact .inl hk)⟩
theorem TriF.str {w0 W : World} {bv bw bx : Nat} {sv sw sx : List UInt8} {fv fw fx : Bool} (h : TriF w0 W bv bw bx sv sw sx fv fw fx) (hlen : sv.length ≤ 9223372036854775807) (s : ByteArray) (hs : saysB sv fv = s) :
    Calls Try.prog 23 #[.pointer (some ⟨bv, 0, none⟩)] W fun e w' => e = .returned (.string s) ∧ TriF w0 w' bv bw bx sv sw sx fv fw fx := by
  obtain ⟨rv, rw, rx, h1, h2, h3, a1, a2, a3, hl⟩ := h.out
  subst hs
  refine (string_any bv rv sv fv W h1 hlen).mono fun e w' ⟨he, hw, hk⟩ => ⟨he, ?_⟩
  exact ⟨h.low.trans (hk.below h.low.size fun x hx => hl x (.inl (sub_blks hx))), rv, rw, rx, hw, h2.other hk fun k hk1 hk2 => a1 k (sub_blks hk2) hk1, h3.other hk fun k hk1 hk2 => a2 k (sub_blks hk2) hk1, a1, a2, a3, hl⟩
/-- three new ones. -/
theorem tri_new (w : World) (T : TypeId) (hT : WT T) : Tri w (((w.alloc (.cells #[.pointer none, .slice none 0 0, .bool false] T)).alloc (.cells #[.pointer none, .slice none 0 0, .bool false] T)).alloc (.cells #[.pointer none, .slice none 0 0, .bool false] T)) [] w.heap.size (w.heap.size + 1) (w.heap.size + 1 + 1) [] [] [] false false false := by
  have h1 := wr_new w T hT
  have h2 := wr_new (w.alloc (.cells #[.pointer none, .slice none 0 0, .bool false] T)) T hT
  have h3 := wr_new ((w.alloc (.cells #[.pointer none, .slice none 0 0, .bool false] T)).alloc (.cells #[.pointer none, .slice none 0 0, .bool false] T)) T hT
  simp only [World.size_alloc] at h2 h3
  refine ⟨below_new (below_new (below_alloc _ _) _) _, none, none, none, (h1.below (below_alloc _ _)).below (below_alloc _ _), h2.below (below_alloc _ _), h3, ?_, ?_, ?_, ?_, by simp⟩
  · intro k h1 h2; rw [mem_blks] at h1 h2; simp at h1 h2; omega
  · intro k h1 h2; rw [mem_blks] at h1 h2; simp at h1 h2; omega
  · intro k h1 h2; rw [mem_blks] at h1 h2; simp at h1 h2; omega
  · intro k hk; simp only [mem_blks] at hk; simp at hk; omega
end Go.Proofs.Ytfpocddpnoighaa.Wr

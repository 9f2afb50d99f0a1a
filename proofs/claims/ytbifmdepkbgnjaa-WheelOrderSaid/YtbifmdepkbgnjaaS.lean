/- whole structs in a region that draws; what is owned, where other blocks are written. -/
import Derived.Test.YtbifmdepkbgnjaaL
import Derived.Test.YtbifmdepkbgnjaaR
import Derived.Test.YtbifmdepkbgnjaaA
namespace Go.Proofs.Ytbifmdepkbgnjaa.S
open Go.RowKit Go.Proofs.Ytbifmdepkbgnjaa.L Go.Proofs.Ytbifmdepkbgnjaa.R Go.Proofs.Ytbifmdepkbgnjaa.A
set_option linter.unusedVariables false
set_option linter.unusedSimpArgs false

theorem keep_upd {g : Nat} {w w' : World} (h : Upd g w w') : Keep [g] w w' := ⟨h.os, h.tape, h.output, by rw [h.size]; exact Nat.le_refl _, fun k hk hn => h.block k (by simpa using hn)⟩
theorem keep_block {S : List Nat} {w w' : World} (h : Keep S w w') {k : Nat} {o : Obj} (hk : w.heap[k]? = some o) (hs : k ∉ S) : w'.heap[k]? = some o := (h.block k (Array.getElem?_eq_some_iff.1 hk).1 hs).trans hk
theorem own_keep {S : List Nat} {w w1 : World} {base : Nat} {e : TypeId} {size n : Nat} {v : Value} {xs : List Value} (h : w.ownsRow base e size v n xs) (hb : Keep S w w1) (hs : ∀ k, v.ownBlock = some k → k ∉ S) : w1.ownsRow base e size v n xs := by
  refine ⟨h.1, ?_⟩
  rcases h.2 with hn | ⟨g, cap, cur, rfl, hbg, hgg, rest⟩
  · exact .inl hn
  · exact .inr ⟨g, cap, cur, rfl, hbg, keep_block hb hgg (hs g rfl), rest⟩
/-- blocks from base on may be written. -/
theorem keep_grown {w w1 : World} {row : Option Nat} (hg : w.grownBy w1 row) (S : List Nat) (hr : ∀ k, row = some k → k < w.heap.size → k ∈ S) : Keep S w w1 :=
  ⟨hg.os, hg.tape, hg.output, hg.size, fun k hk hn => hg.block k hk fun h => hn (hr k h.symm hk)⟩

section
variable {P : Program} {ops : Array Oper}
theorem wp_load_blk {o : Oper} {a : Act} {w : World} {K : Act → World → Prop} {Q : Exit → Act → World → Prop} (ty : TypeId) (x : Operand) (ho : o.op = .load ty x)
    (g off n : Nat) (hx : a.eval x = .pointer (some ⟨g, off, none⟩)) (t : TypeId) (cs : Array Value) (fr : Nat × Nat) (d : TypeDesc) (hg : w.heap[g]? = some (.cells cs t fr))
    (hu : P.underlying ty = some d) (hd : isAggD d = true) (hi : (P.info? ty).map (·.size) = some n) (hn : off + n ≤ cs.size) (vs : Array Value) (hvs : cs.extract off (off + n) = vs)
    (h : K (a.put o.dst (.agg vs)) w) : o.wp P a w K Q := by
  subst hvs
  unfold Oper.wp execOp
  simp only [ho, hx, Instr.loadAt, Instr.sureAddr, Sem.run_bind, Sem.run_pure, Result.andThen_ok, run_load_blk w g off n ty t cs fr d hg hu hd hi hn]
  exact h
theorem wp_store_blk {o : Oper} {a : Act} {w : World} {K : Act → World → Prop} {Q : Exit → Act → World → Prop} (ty : TypeId) (x y : Operand) (ho : o.op = .store ty x y)
    (g off : Nat) (hx : a.eval x = .pointer (some ⟨g, off, none⟩)) (t : TypeId) (cs : Array Value) (v : Value) (hy : a.eval y = v) (hg : w.heap[g]? = some (.cells cs t (0, 0)))
    (hi : (P.info? ty).map (·.size) = some v.cells.size) (hn : off + v.cells.size ≤ cs.size) (h1 : ∀ u ∈ v.cells.toList, u.oneCell' = true)
    (cs' : Array Value) (hcs : (cs.toList.take off ++ v.cells.toList ++ cs.toList.drop (off + v.cells.size)).toArray = cs')
    (h : ∀ w', w'.heap[g]? = some (.cells cs' t (0, 0)) → Upd g w w' → K (a.put o.dst undef) w') : o.wp P a w K Q := by
  subst hcs
  replace h := h _ (setRow_heap w g _ _ _ _ hg) (Upd.setRow g w _)
  unfold Oper.wp execOp
  simp only [ho, hx, hy, Instr.storeAt, Instr.sureAddr, Sem.run_bind, Sem.run_pure, Result.andThen_ok, run_store_blk w g off ty t cs v hg hi hn h1]
  exact h
theorem runs_load_blk {o : Oper} {a : Act} {w : World} {K : Act → World → Prop} (hw : Region.wanted o (yielded ops a.tmps) = true) (ty : TypeId) (x : Operand) (ho : o.op = .load ty x)
    (g off n : Nat) (hx : a.eval x = .pointer (some ⟨g, off, none⟩)) (t : TypeId) (cs : Array Value) (fr : Nat × Nat) (d : TypeDesc) (hg : w.heap[g]? = some (.cells cs t fr))
    (hu : P.underlying ty = some d) (hd : isAggD d = true) (hi : (P.info? ty).map (·.size) = some n) (hn : off + n ≤ cs.size) (vs : Array Value) (hvs : cs.extract off (off + n) = vs)
    (h : K (a.put o.dst (.agg vs)) w) : Runs P ops o a w K := .of_wp hw (wp_load_blk ty x ho g off n hx t cs fr d hg hu hd hi hn vs hvs h)
theorem runs_store_blk {o : Oper} {a : Act} {w : World} {K : Act → World → Prop} (hw : Region.wanted o (yielded ops a.tmps) = true) (ty : TypeId) (x y : Operand) (ho : o.op = .store ty x y)
    (g off : Nat) (hx : a.eval x = .pointer (some ⟨g, off, none⟩)) (t : TypeId) (cs : Array Value) (v : Value) (hy : a.eval y = v) (hg : w.heap[g]? = some (.cells cs t (0, 0)))
    (hi : (P.info? ty).map (·.size) = some v.cells.size) (hn : off + v.cells.size ≤ cs.size) (h1 : ∀ u ∈ v.cells.toList, u.oneCell' = true)
    (cs' : Array Value) (hcs : (cs.toList.take off ++ v.cells.toList ++ cs.toList.drop (off + v.cells.size)).toArray = cs')
    (h : ∀ w', w'.heap[g]? = some (.cells cs' t (0, 0)) → Upd g w w' → K (a.put o.dst undef) w') : Runs P ops o a w K := .of_wp hw (wp_store_blk ty x y ho g off hx t cs v hy hg hi hn h1 cs' hcs h)
end
end Go.Proofs.Ytbifmdepkbgnjaa.S

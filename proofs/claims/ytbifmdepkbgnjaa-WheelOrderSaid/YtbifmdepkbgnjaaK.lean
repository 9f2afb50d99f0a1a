/- map[int]bool as a set of numbers. -/
import Derived.Test.YtbifmdepkbgnjaaL
import Derived.Maps.Own
import Derived.Maps.OwnSet
import Derived.Maps.OwnOps
import Derived.Maps.Views
namespace Go.Proofs.Ytbifmdepkbgnjaa.K
open Go.RowKit Go.Proofs.Ytbifmdepkbgnjaa.L Go.Maps
set_option linter.unusedVariables false
set_option linter.unusedSimpArgs false

/-- the map at b has just the keys L, each once, and true at each. -/
def NumSet (P : Program) (w : World) (k e : TypeId) (b : Nat) (L : List Int) : Prop :=
  ∃ D : DataW Unit, w.ownsMap P k (plainElem P e) b L.length D ∧ (∀ x, D.atKey (.int .i64 x) (.lit (.bool false)) = .lit (.bool (L.contains x))) ∧ (∀ x, Maps.has D (.int .i64 x) = L.contains x) ∧ Maps.size D = L.length
section
variable {P : Program} {k e : TypeId} {b : Nat} {L : List Int}
theorem set_made (w : World) : NumSet P (w.alloc (.map #[] 0)) k e w.heap.size [] := ⟨.map [], World.ownsMap_made w P k _, fun x => rfl, fun x => rfl, rfl⟩
theorem NumSet.lt {w : World} (h : NumSet P w k e b L) : b < w.heap.size := by obtain ⟨D, h, _⟩ := h; exact h.lt
theorem NumSet.keep {w w1 : World} {S : List Nat} (h : NumSet P w k e b L) (hk : Keep S w w1) (hb : b ∉ S) : NumSet P w1 k e b L := by
  obtain ⟨D, h, r⟩ := h
  have hlt := h.lt
  obtain ⟨es, clock, hb', F, hs, hD⟩ := h
  exact ⟨D, ⟨es, clock, (hk.block b hlt hb).trans hb', F, hs, hD⟩, r⟩
theorem run_lookup_set (w : World) (t : TypeId) (h : NumSet P w k e b L) (hk : P.underlying k = some (.int .i64)) (ht : P.underlying t = some (.map k e)) (he : P.underlying e = some .bool) (hz : (zeroValue e).run P w = .ok (.bool false) w) (n : Int) (hn : (Lit.int .i64 n).wf = true) :
    (Instr.lookup t (.map (some b)) (.int .i64 n) false).run P w = .ok (.bool (L.contains n)) w := by
  obtain ⟨D, h, hat, _⟩ := h
  obtain ⟨v, ps, hrun, hv⟩ := h.lookup (int_keyed hk) ht hz (plainElem_bool he false) (keyOf_int_mk hk hn)
  rw [hat n] at hv
  rw [hrun]
  have : v = .bool (L.contains n) := by
    unfold plainElem at hv
    rw [he] at hv
    cases v <;> simp at hv
    rename_i x
    rw [hv.1]
    simp
  rw [this]
theorem wpList_lookup_set {w : World} {ops : Array Oper} {rest : List Oper} {o : Oper} {a : Act} {Q : Exit → Act → World → Prop} (hg : o.guard = none) (m x : Operand) (t : TypeId) (hop : o.op = Op.lookup t m x false)
    (h : NumSet P w k e b L) (hk : P.underlying k = some (.int .i64)) (ht : P.underlying t = some (.map k e)) (he : P.underlying e = some .bool) (hz : (zeroValue e).run P w = .ok (.bool false) w) (n : Int) (hn : (Lit.int .i64 n).wf = true)
    (hm : a.eval m = .map (some b)) (hx : a.eval x = .int .i64 n) (hK : wpList P ops Q rest (a.put o.dst (.bool (L.contains n))) w) : wpList P ops Q (o :: rest) a w := by
  refine wpList_plain hg fun K' hK' => ?_
  unfold Oper.wp
  simp only [execOp, hop, hm, hx, Sem.run_bind, run_lookup_set w t h hk ht he hz n hn, Result.andThen_ok, Sem.run_pure]
  exact hK' _ _ hK
theorem lit_ne {x n : Int} (h : x ≠ n) : Lit.int .i64 x ≠ Lit.int .i64 n := fun e => by cases e; exact h rfl
theorem wpList_put_set {w : World} {ops : Array Oper} {rest : List Oper} {o : Oper} {a : Act} {Q : Exit → Act → World → Prop} (hg : o.guard = none) (m x v : Operand) (t : TypeId) (hop : o.op = Op.mapUpdate t m x v)
    (h : NumSet P w k e b L) (hl : L.length < 1000000) (hk : P.underlying k = some (.int .i64)) (ht : P.underlying t = some (.map k e)) (he : P.underlying e = some .bool) (n : Int) (hn : (Lit.int .i64 n).wf = true) (hnot : L.contains n = false)
    (hm : a.eval m = .map (some b)) (hx : a.eval x = .int .i64 n) (hv : a.eval v = .bool true) (hK : ∀ w', NumSet P w' k e b (L ++ [n]) → w.grownBy w' (some b) → wpList P ops Q rest (a.put o.dst undef) w') : wpList P ops Q (o :: rest) a w := by
  obtain ⟨D, h, hat, hhas, hsz⟩ := h
  refine wpList_mapUpdate_own w hg m x v t hop k e (int_keyed hk) ht (plainElem P e) b L.length D hm h (by simp only [maxLen]; omega) (.int .i64 n) (.bool true) (.int .i64 n) hx hv (keyOf_int_mk hk hn) (.lit (.bool true)) [] (plainElem_bool he true) ?_
  intro w' h' hgr
  have hkey : WideAt.IsKeyLit (.int .i64 n) := trivial
  refine hK w' ⟨_, by simpa using h', fun y => ?_, fun y => ?_, ?_⟩ hgr
  · by_cases e : y = n
    · subst e; rw [atKey_put_same h.isMap hkey]; simp
    · rw [atKey_put_other (lit_ne e), hat y]; simp [e]
  · by_cases e : y = n
    · subst e; rw [has_put_same h.isMap hkey]; simp
    · rw [has_put_other (lit_ne e), hhas y]; simp [e]
  · rw [size_put (h.tidy (int_keyed hk)), hhas n, hnot, hsz]; simp
theorem run_put_set (w : World) (t : TypeId) (h : NumSet P w k e b L) (hl : L.length < 1000000) (hk : P.underlying k = some (.int .i64)) (ht : P.underlying t = some (.map k e)) (he : P.underlying e = some .bool) (n : Int) (hn : (Lit.int .i64 n).wf = true) (hnot : L.contains n = false) :
    ∃ w', (Instr.mapUpdate t (.map (some b)) (.int .i64 n) (.bool true)).run P w = .ok () w' ∧ NumSet P w' k e b (L ++ [n]) ∧ w.grownBy w' (some b) := by
  obtain ⟨D, h, hat, hhas, hsz⟩ := h
  obtain ⟨w', hrun, h', hgr⟩ := h.update (int_keyed hk) ht (by simp only [maxLen]; omega) (keyOf_int_mk hk hn) (plainElem_bool he true)
  have hkey : WideAt.IsKeyLit (.int .i64 n) := trivial
  refine ⟨w', hrun, ⟨_, by simpa using h', fun y => ?_, fun y => ?_, ?_⟩, hgr⟩
  · by_cases e : y = n
    · subst e; rw [atKey_put_same h.isMap hkey]; simp
    · rw [atKey_put_other (lit_ne e), hat y]; simp [e]
  · by_cases e : y = n
    · subst e; rw [has_put_same h.isMap hkey]; simp
    · rw [has_put_other (lit_ne e), hhas y]; simp [e]
  · rw [size_put (h.tidy (int_keyed hk)), hhas n, hnot, hsz]; simp
theorem wpList_len_set {w : World} {ops : Array Oper} {rest : List Oper} {o : Oper} {a : Act} {Q : Exit → Act → World → Prop} (hg : o.guard = none) (m : Operand) (t : TypeId) (hop : o.op = Op.call { callee := Callee.builtin Builtin.len, args := #[m], argTypes := #[t] })
    (h : NumSet P w k e b L) (ht : P.underlying t = some (.map k e)) (hm : a.eval m = .map (some b)) (hK : wpList P ops Q rest (a.put o.dst (.int .i64 (L.length : Nat))) w) : wpList P ops Q (o :: rest) a w := by
  obtain ⟨D, h, hat, hhas, hsz⟩ := h
  refine wpList_len_own w hg m t hop k e ht (plainElem P e) b L.length D hm h ?_
  rw [hsz]
  exact hK
end
end Go.Proofs.Ytbifmdepkbgnjaa.K

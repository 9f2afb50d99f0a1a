/- net: a map from ways to bools. -/
import Derived.Test.YtbdcgfdchkbcnaaProg
import Derived.Test.YtbdcgfdchkbcnaaK
import Derived.Test.YtbdcgfdchkbcnaaT
import Derived.Test.YtbdcgfdchkbcnaaS
import Derived.DeepKeys4
namespace Go.Proofs.Ytbdcgfdchkbcnaa.Ne
open Go.RowKit Go.Maps Go.Proofs.Ytbdcgfdchkbcnaa.L Go.Proofs.Ytbdcgfdchkbcnaa.S Go.Proofs.Ytbdcgfdchkbcnaa.T
set_option linter.unusedVariables false
set_option linter.unusedSimpArgs false

abbrev KT : TypeId := 125
abbrev MT : TypeId := 102
abbrev BT : TypeId := 4
theorem i64_wf {n : Int} (h : -9223372036854775808 ≤ n ∧ n ≤ 9223372036854775807) : (Lit.int .i64 n).wf = true := by
  simp [Lit.wf, IntKind.min, IntKind.max, IntKind.signed, IntKind.bits]
  omega
def wy (x y : Int) : Value := .agg #[.int .i64 x, .int .i64 y]
theorem way_wide : (match Try.prog.underlying KT with | some (.array _ _) | some (.struct _) => true | _ => false) = true := by rw [Try.underlying125]
theorem way_laid : laidOutB Try.prog = true := by kernel_rfl
set_option maxRecDepth 100000 in
theorem way_law : Keyed Try.prog KT := Keyed.of_law (deep_law_laid way_laid (m := 2) (by omega) (of_decide_eq_true (by kernel_rfl)) (by kernel_rfl) way_wide)
theorem way_cells : Try.prog.cellsOf KT = 2 := by kernel_rfl
theorem way_formed {c0 c1 : Value} : (Value.agg #[c0, c1]).formed Try.prog KT = true := by simp [Value.formed, Try.underlying125, way_cells]
theorem way_type : Try.prog.keyType KT = true := by kernel_rfl
theorem way_lits (d : Nat) (x y : Int) (hx : (Lit.int .i64 x).wf = true) (hy : (Lit.int .i64 y).wf = true) : Try.prog.keyLits (d + 2) KT [.int .i64 x, .int .i64 y] = some [.int .i64 x, .int .i64 y] := by
  have hi : Try.prog.underlying 3 = some (.int .i64) := by kernel_rfl
  have hci : Try.prog.cellsOf 3 = 1 := by kernel_rfl
  have h1 : ∀ z, (Lit.int .i64 z).wf = true → Try.prog.keyLits (d + 1) 3 [.int .i64 z] = some [.int .i64 z] := fun z hz => by
    unfold Program.keyLits
    rw [hi]
    simp [hz]
  unfold Program.keyLits
  rw [Try.underlying125]
  simp [way_cells, hci, h1 x hx, h1 y hy]
theorem way_key (x y : Int) (hx : (Lit.int .i64 x).wf = true) (hy : (Lit.int .i64 y).wf = true) : ∃ kl, keyOf Try.prog KT (wy x y) = some kl := by
  unfold keyOf
  rw [Try.underlying125]
  obtain ⟨d, hd⟩ : ∃ d, Try.prog.types.size + 1 = d + 2 := ⟨Try.prog.types.size - 1, by have : 1 ≤ Try.prog.types.size := of_decide_eq_true (by kernel_rfl); omega⟩
  rw [hd]
  simp [way_type, wy, way_formed, Value.cells, way_lits d x y hx hy]
/-- the map at b answers as f. -/
def WayMap (w : World) (b n : Nat) (f : Int → Int → Bool) : Prop :=
  ∃ D : DataW Unit, w.ownsMap Try.prog KT (plainElem Try.prog BT) b n D ∧ ∀ x y kl, keyOf Try.prog KT (wy x y) = some kl → D.atKey kl (.lit (.bool false)) = .lit (.bool (f x y))
theorem WayMap.keep {S : List Nat} {w w1 : World} {b n : Nat} {f : Int → Int → Bool} (h : WayMap w b n f) (hk : Keep S w w1) (hb : b ∉ S) : WayMap w1 b n f := by
  obtain ⟨D, h, r⟩ := h
  have hlt := h.lt
  obtain ⟨es, clock, hb', F, hs, hD⟩ := h
  exact ⟨D, ⟨es, clock, (hk.block b hlt hb).trans hb', F, hs, hD⟩, r⟩
theorem WayMap.lt {w : World} {b n : Nat} {f : Int → Int → Bool} (h : WayMap w b n f) : b < w.heap.size := by obtain ⟨D, h, _⟩ := h; exact h.lt
theorem way_made (w : World) : WayMap (w.alloc (.map #[] 0)) w.heap.size 0 (fun _ _ => false) := ⟨.map [], World.ownsMap_made w _ _ _, fun x y kl _ => rfl⟩
theorem way_info : Try.prog.underlying MT = some (.map KT BT) ∧ Try.prog.underlying BT = some .bool := ⟨by kernel_rfl, by kernel_rfl⟩
theorem way_zero (w : World) : (zeroValue BT).run Try.prog w = .ok (.bool false) w := by kernel_rfl
theorem way_look {w : World} {b n : Nat} {f : Int → Int → Bool} (h : WayMap w b n f) (x y : Int) (hx : (Lit.int .i64 x).wf = true) (hy : (Lit.int .i64 y).wf = true) : (Instr.lookup MT (.map (some b)) (wy x y) false).run Try.prog w = .ok (.bool (f x y)) w := by
  obtain ⟨D, h, hat⟩ := h
  obtain ⟨kl, hkl⟩ := way_key x y hx hy
  obtain ⟨v, ps, hrun, hv⟩ := h.lookup way_law way_info.1 (way_zero w) (plainElem_bool way_info.2 false) hkl
  rw [hat x y kl hkl] at hv
  rw [hrun]
  have : v = .bool (f x y) := by
    unfold plainElem at hv
    rw [way_info.2] at hv
    cases v <;> simp at hv
    rename_i z
    rw [hv.1]
  rw [this]
theorem way_put {w : World} {b n : Nat} {f : Int → Int → Bool} (h : WayMap w b n f) (hn : n < 1000000) (x y : Int) (v : Bool) (hx : (Lit.int .i64 x).wf = true) (hy : (Lit.int .i64 y).wf = true) :
    ∃ w', (Instr.mapUpdate MT (.map (some b)) (wy x y) (.bool v)).run Try.prog w = .ok () w' ∧ WayMap w' b (n + 1) (fun x' y' => if x' = x ∧ y' = y then v else f x' y') ∧ Keep [b] w w' := by
  obtain ⟨D, h, hat⟩ := h
  obtain ⟨kl, hkl⟩ := way_key x y hx hy
  obtain ⟨w', hrun, h', hgr⟩ := h.update way_law way_info.1 (by simp only [maxLen]; omega) hkl (plainElem_bool way_info.2 v)
  refine ⟨w', hrun, ⟨_, h', fun x' y' kl' hkl' => ?_⟩, keep_grown hgr [b] (fun k hk _ => by cases hk; simp)⟩
  by_cases e : kl' = kl
  · subst e
    have hin := way_law.inj hkl' hkl
    simp only [wy, Value.agg.injEq, Array.mk.injEq, List.cons.injEq, Value.int.injEq, true_and, and_true] at hin
    rw [atKey_put_same h.isMap (way_law.key hkl')]
    simp [hin]
  · rw [atKey_put_other e, hat x' y' kl' hkl']
    have : ¬ (x' = x ∧ y' = y) := fun h => e (by
      obtain ⟨rfl, rfl⟩ := h
      rw [hkl] at hkl'
      exact (Option.some.inj hkl').symm)
    simp [this]
end Go.Proofs.Ytbdcgfdchkbcnaa.Ne

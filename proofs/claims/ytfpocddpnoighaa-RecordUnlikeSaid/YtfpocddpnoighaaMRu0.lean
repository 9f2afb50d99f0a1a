/- Small words that all texts of this seat use: slices that are read, worlds, numbers. -/
import Derived.BigQuiet
import Derived.Deep.LoopGhost
import Derived.Deep.QuietTactic
import Derived.KernelRfl
import Derived.Laws.BitsLemmas
import Derived.Laws.BytesArg
import Derived.Lib.ConvBytes
import Derived.Lib.Hide
import Derived.RowKit3
import Derived.WalkKit
namespace Go.Proofs.Ytfpocddpnoighaa.L
open Go.RowKit
set_option linter.unusedVariables false
set_option linter.unusedSimpArgs false

/-- n elements, of one cell each, at A; nil, empty and other slices alike. -/
def Rd (w : World) (A : Option Addr) (n : Nat) (xs : List Value) : Prop :=
  xs.length = n ∧ n ≤ 9223372036854775807 ∧ (0 < n → ∃ b o, A = some ⟨b, o, none⟩ ∧ ∀ j, j < n → w.cell? ⟨b, o + j, none⟩ = xs[j]?)
theorem Rd.len {w : World} {A : Option Addr} {n : Nat} {xs : List Value} (h : Rd w A n xs) : xs.length = n := h.1
theorem Rd.below {w w1 : World} {A : Option Addr} {n : Nat} {xs : List Value} (h : Rd w A n xs) (hb : Below w.heap.size w w1) : Rd w1 A n xs :=
  ⟨h.1, h.2.1, fun hn => by
    obtain ⟨b, o, e, hc⟩ := h.2.2 hn
    refine ⟨b, o, e, fun j hj => ?_⟩
    have h0 := hc j hj
    have hx : j < xs.length := by have := h.1; omega
    rw [List.getElem?_eq_getElem hx] at h0 ⊢
    exact (hb.cell (World.block_lt_of_cell? w _ h0)).trans h0⟩
theorem retb {b : Bool} (h : b = true) : Ending.returned (.bool true) = .returned (.bool b) := by rw [h]
theorem retbf {b : Bool} (h : b = false) : Ending.returned (.bool false) = .returned (.bool b) := by rw [h]
theorem reti {k : IntKind} {a b : Int} (h : a = b) : Ending.returned (.int k a) = .returned (.int k b) := by rw [h]
theorem retv {a b : Value} (h : a = b) : Ending.returned a = .returned b := by rw [h]
/-- a callee that kept all that was there. -/
theorem below2 {w w1 w2 : World} (h : Below w.heap.size w w1) (h2 : Below w1.heap.size w1 w2) : Below w.heap.size w w2 := h.trans (h2.mono h.size)
theorem below_new {w w1 : World} (h : Below w.heap.size w w1) (o : Obj) : Below w.heap.size w (w1.alloc o) := h.alloc h.size o
theorem below_of_drew {w w1 : World} (h : Below w.drew.heap.size w.drew w1) : Below w.heap.size w w1 := ⟨h.os, h.tape, h.output, h.size, h.block⟩
theorem below_drew {B : Nat} {w w1 : World} (h : Below B w w1) : Below B w w1.drew := h.drew
theorem bcell {W w1 : World} (hb : Below W.heap.size W w1) : (∀ b o, b < W.heap.size → w1.cell? ⟨b, o, none⟩ = W.cell? ⟨b, o, none⟩) ∧ (∀ b o, b < W.heap.size → w1.frozen? ⟨b, o, none⟩ = W.frozen? ⟨b, o, none⟩) :=
  ⟨fun b o h => hb.cell (p := ⟨b, o, none⟩) h, fun b o h => hb.frozen (p := ⟨b, o, none⟩) h⟩
theorem rd_one {w : World} {g : Nat} {v : Value} (h : w.cell? ⟨g, 0, none⟩ = some v) : Rd w (some ⟨g, 0, none⟩) 1 [v] :=
  ⟨rfl, by omega, fun _ => ⟨_, _, rfl, fun j hj => by
    obtain rfl : j = 0 := by omega
    rw [Nat.add_zero, h]; rfl⟩⟩
theorem rd_nil (w : World) (A : Option Addr) : Rd w A 0 [] := ⟨rfl, by omega, fun h => by omega⟩
theorem rd_alloc (w : World) (xs : List Value) (t : TypeId) (n : Nat) (hn : xs.length = n) (hm : n ≤ 9223372036854775807) : Rd (w.alloc (.cells xs.toArray t)) (some ⟨w.heap.size, 0, none⟩) n xs :=
  ⟨hn, hm, fun _ => ⟨_, _, rfl, fun j hj => by
    rw [Nat.zero_add, cell_of_row _ _ _ _ _ _ (heap_alloc_new w _)]
    simp⟩⟩
theorem bits_xor32 (a b : Nat) (ha : a < 2 ^ 32) (hb : b < 2 ^ 32) : bits .xor .u32 (a : Int) (b : Int) = ((a ^^^ b : Nat) : Int) := by
  have hx := Nat.xor_lt_two_pow ha hb
  have e : (BitVec.ofNat 32 a ^^^ BitVec.ofNat 32 b).toNat = a ^^^ b := by
    rw [BitVec.toNat_xor, BitVec.toNat_ofNat, BitVec.toNat_ofNat, Nat.mod_eq_of_lt ha, Nat.mod_eq_of_lt hb]
  show IntKind.u32.wrap (((BitVec.ofNat 32 a ^^^ BitVec.ofNat 32 b).toNat : Nat) : Int) = _
  rw [e, IntKind.wrap_u32]
  omega
theorem bits_xor8 (a b : Nat) (ha : a < 2 ^ 8) (hb : b < 2 ^ 8) : bits .xor .u8 (a : Int) (b : Int) = ((a ^^^ b : Nat) : Int) := by
  have hx := Nat.xor_lt_two_pow ha hb
  have e : (BitVec.ofNat 8 a ^^^ BitVec.ofNat 8 b).toNat = a ^^^ b := by
    rw [BitVec.toNat_xor, BitVec.toNat_ofNat, BitVec.toNat_ofNat, Nat.mod_eq_of_lt ha, Nat.mod_eq_of_lt hb]
  show IntKind.u8.wrap (((BitVec.ofNat 8 a ^^^ BitVec.ofNat 8 b).toNat : Nat) : Int) = _
  rw [e, IntKind.wrap_u8]
  omega
theorem bits_and32 (a b : Nat) (ha : a < 2 ^ 32) (hb : b < 2 ^ 32) : bits .and .u32 (a : Int) (b : Int) = ((a &&& b : Nat) : Int) := by
  have hx := Nat.and_lt_two_pow (n := 32) a hb
  have e : (BitVec.ofNat 32 a &&& BitVec.ofNat 32 b).toNat = a &&& b := by
    rw [BitVec.toNat_and, BitVec.toNat_ofNat, BitVec.toNat_ofNat, Nat.mod_eq_of_lt ha, Nat.mod_eq_of_lt hb]
  show IntKind.u32.wrap (((BitVec.ofNat 32 a &&& BitVec.ofNat 32 b).toNat : Nat) : Int) = _
  rw [e, IntKind.wrap_u32]
  omega

/-! ### what a call may have written: the blocks S, and whatever is new -/
structure Keep (S : List Nat) (w w' : World) : Prop where
  os : w'.os = w.os
  tape : w'.tape = w.tape
  output : w'.output = w.output
  size : w.heap.size ≤ w'.heap.size
  block : ∀ k, k < w.heap.size → k ∉ S → w'.heap[k]? = w.heap[k]?
theorem Keep.refl (S : List Nat) (w : World) : Keep S w w := ⟨rfl, rfl, rfl, Nat.le_refl _, fun _ _ _ => rfl⟩
theorem Keep.trans {S : List Nat} {a b c : World} (h : Keep S a b) (k : Keep S b c) : Keep S a c :=
  ⟨k.os.trans h.os, k.tape.trans h.tape, k.output.trans h.output, Nat.le_trans h.size k.size, fun i hi hs => (k.block i (Nat.lt_of_lt_of_le hi h.size) hs).trans (h.block i hi hs)⟩
theorem Keep.mono {S S' : List Nat} {w w' : World} (h : Keep S w w') (hs : ∀ x ∈ S, x ∈ S') : Keep S' w w' := ⟨h.os, h.tape, h.output, h.size, fun k hk hn => h.block k hk fun hx => hn (hs k hx)⟩
theorem Keep.of_below {S : List Nat} {w w' : World} (h : Below w.heap.size w w') : Keep S w w' := ⟨h.os, h.tape, h.output, h.size, fun k hk _ => h.block k hk⟩
theorem Keep.below {S : List Nat} {w w' : World} (h : Keep S w w') {B : Nat} (hB : B ≤ w.heap.size) (hs : ∀ x ∈ S, B ≤ x) : Below B w w' :=
  ⟨h.os, h.tape, h.output, h.size, fun k hk => h.block k (Nat.lt_of_lt_of_le hk hB) fun hx => by have := hs k hx; omega⟩
theorem Keep.cell {S : List Nat} {w w' : World} (h : Keep S w w') {p : Addr} (hp : p.block < w.heap.size) (hs : p.block ∉ S) : w'.cell? p = w.cell? p := World.cell?_of_block (w := w) (h.block p.block hp hs)
theorem Keep.frozen {S : List Nat} {w w' : World} (h : Keep S w w') {p : Addr} (hp : p.block < w.heap.size) (hs : p.block ∉ S) : w'.frozen? p = w.frozen? p := World.frozen?_of_block (w := w) (h.block p.block hp hs)
theorem Keep.alloc {S : List Nat} {a w : World} (h : Keep S a w) (o : Obj) : Keep S a (w.alloc o) := h.trans (.of_below ((Below.refl _ _).alloc (Nat.le_refl _) o))
theorem Keep.drew {S : List Nat} {a w : World} (h : Keep S a w) : Keep S a w.drew := ⟨h.os, h.tape, h.output, h.size, h.block⟩
theorem Keep.setCell {S : List Nat} {a w : World} (h : Keep S a w) {p : Addr} (hp : p.block ∈ S ∨ a.heap.size ≤ p.block) (u : Value) : Keep S a (w.setCell p u) :=
  ⟨h.os, h.tape, h.output, by simpa [World.setCell] using h.size, fun k hk hs => by
    have hne : k ≠ p.block := by
      rintro rfl
      rcases hp with hp | hp
      · exact hs hp
      · omega
    exact (Below.heap_setCell _ _ _ _ hne).trans (h.block k hk hs)⟩
theorem Rd.keep {S : List Nat} {w w1 : World} {A : Option Addr} {n : Nat} {xs : List Value} (h : Rd w A n xs) (hb : Keep S w w1) (hs : ∀ b o, A = some ⟨b, o, none⟩ → b ∉ S) : Rd w1 A n xs :=
  ⟨h.1, h.2.1, fun hn => by
    obtain ⟨b, o, e, hc⟩ := h.2.2 hn
    refine ⟨b, o, e, fun j hj => ?_⟩
    have h0 := hc j hj
    have hx : j < xs.length := by have := h.1; omega
    rw [List.getElem?_eq_getElem hx] at h0 ⊢
    exact (hb.cell (World.block_lt_of_cell? w _ h0) (hs b o e)).trans h0⟩
/-! ### a string as a slice of bytes, and back -/
section
variable {P : Program}
/-- the block behind '[]byte(s)': its cells, the mark behind them. -/
def IsBytes (w : World) (g : Nat) (e : TypeId) (cap : Nat) (D : Nat → Int) (n : Nat) : Prop :=
  ∃ cs : Array Value, w.heap[g]? = some (.cells cs e (cap, cap + 1)) ∧ cs.size = cap ∧ n ≤ cap ∧ ∀ j, j < n → cs[j]? = some (.int .u8 (D j))
theorem IsBytes.cell {w : World} {g : Nat} {e : TypeId} {cap n : Nat} {D : Nat → Int} (h : IsBytes w g e cap D n) {j : Nat} (hj : j < n) : w.cell? ⟨g, j, none⟩ = some (.int .u8 (D j)) := by
  obtain ⟨cs, h1, h2, h3, h4⟩ := h
  rw [cell_of_row w g j cs e _ h1, h4 j hj]
theorem IsBytes.free {w : World} {g : Nat} {e : TypeId} {cap n : Nat} {D : Nat → Int} (h : IsBytes w g e cap D n) {j : Nat} (hj : j < n) : w.frozen? ⟨g, j, none⟩ = false := by
  obtain ⟨cs, h1, h2, h3, h4⟩ := h
  simp [World.frozen?, h1]; omega
theorem heap_setCell_at (w : World) (g i : Nat) (cs : Array Value) (t : TypeId) (fr : Nat × Nat) (v : Value) (hg : w.heap[g]? = some (.cells cs t fr)) :
    (w.setCell ⟨g, i, none⟩ v).heap[g]? = some (.cells (cs.setIfInBounds i v) t fr) := by
  rw [setCell_eq_setRow w g i cs t fr v hg]
  exact setRow_heap w g cs _ t _ hg
theorem IsBytes.set {w : World} {g : Nat} {e : TypeId} {cap n : Nat} {D : Nat → Int} (h : IsBytes w g e cap D n) {i : Nat} (hi : i < n) (x : Int) : IsBytes (w.setCell ⟨g, i, none⟩ (.int .u8 x)) g e cap (fun j => if j = i then x else D j) n := by
  obtain ⟨cs, h1, h2, h3, h4⟩ := h
  refine ⟨_, heap_setCell_at w g i cs e _ _ h1, by simpa using h2, h3, fun j hj => ?_⟩
  rw [Array.getElem?_setIfInBounds]
  by_cases hji : i = j
  · subst hji; simp; omega
  · have : ¬ j = i := fun h => hji h.symm
    simp [hji, this, h4 j hj]
theorem IsBytes.kept {w w1 : World} {g : Nat} {e : TypeId} {cap n : Nat} {D : Nat → Int} (h : IsBytes w g e cap D n) (hb : w1.heap[g]? = w.heap[g]?) : IsBytes w1 g e cap D n := by
  obtain ⟨cs, h1, h2⟩ := h
  exact ⟨cs, hb.trans h1, h2⟩
theorem IsBytes.congr {w : World} {g : Nat} {e : TypeId} {cap n : Nat} {D D' : Nat → Int} (h : IsBytes w g e cap D n) (hd : ∀ j, j < n → D j = D' j) : IsBytes w g e cap D' n := by
  obtain ⟨cs, h1, h2, h3, h4⟩ := h
  exact ⟨cs, h1, h2, h3, fun j hj => by rw [h4 j hj, hd j hj]⟩
theorem IsBytes.lt {w : World} {g : Nat} {e : TypeId} {cap n : Nat} {D : Nat → Int} (h : IsBytes w g e cap D n) : g < w.heap.size := by
  obtain ⟨cs, h1, _⟩ := h
  exact (Array.getElem?_eq_some_iff.1 h1).1
def byteAt (s : ByteArray) (j : Nat) : Int := ((s.data.toList.getD j 0).toNat : Int)
theorem wpList_of_string {ops : Array Oper} {rest : List Oper} {o : Oper} {a : Act} {w : World} {Q : Exit → Act → World → Prop} (hgd : o.guard = none) (src dst e : TypeId) (x : Operand) (ho : o.op = .convert src dst x) (s : ByteArray) (hx : a.eval x = .string s)
    (hs : P.underlying src = some .string) (hd : P.underlying dst = some (.slice e)) (he : P.underlying e = some (.int .u8))
    (h : ∀ w' cap, IsBytes w' w.heap.size e cap (byteAt s) s.size → w'.heap.size = w.heap.size + 1 → Below w.heap.size w w' → wpList P ops Q rest (a.put o.dst (.slice (some ⟨w.heap.size, 0, none⟩) s.size cap)) w') : wpList P ops Q (o :: rest) a w := by
  have hsz : s.size ≤ (Lib.bytesCells w e s).size := by
    simp only [Lib.bytesCells, Array.size_append, Array.size_map]
    exact Nat.le_add_right _ _
  have hcap : grownCap w s.size 0 e = (Lib.bytesCells w e s).size := by
    have : s.size ≤ grownCap w s.size 0 e := grownCap_ge w s.size 0 e
    simp only [Lib.bytesCells, Array.size_append, Array.size_map, Array.size_replicate]
    show _ = s.size + _
    omega
  refine wpList_plain hgd fun K hK => ?_
  unfold Oper.wp execOp
  simp only [ho, hx, Sem.run_bind, Lib.run_convert_string_bytes w src dst e s hs hd he, Result.andThen_ok, Sem.run_pure]
  rw [hcap]
  refine hK _ _ (h _ _ ⟨_, Lib.bytesWorld_at_new w e s, rfl, ?_, fun j hj => ?_⟩ (Lib.bytesWorld_size w e s) ⟨rfl, rfl, rfl, by rw [Lib.bytesWorld_size]; omega, fun i hi => Lib.bytesWorld_at_old w e s i hi⟩)
  · exact hsz
  · have := Lib.bytesWorld_cell w e s j hj
    rw [cell_of_row _ _ _ _ _ _ (Lib.bytesWorld_at_new w e s)] at this
    exact this
end
/-- block g alone is another one. -/
structure Upd (g : Nat) (w w' : World) : Prop where
  os : w'.os = w.os
  tape : w'.tape = w.tape
  output : w'.output = w.output
  size : w'.heap.size = w.heap.size
  block : ∀ k, k ≠ g → w'.heap[k]? = w.heap[k]?
theorem Upd.below {g B : Nat} {w w' : World} (h : Upd g w w') (hB : B ≤ g) : Below B w w' := ⟨h.os, h.tape, h.output, by rw [h.size]; exact Nat.le_refl _, fun k hk => h.block k (by omega)⟩
theorem Upd.setRow (g : Nat) (w : World) (cs : Array Value) : Upd g w (w.setRow g cs) := ⟨rfl, rfl, rfl, by simp, fun k hk => setRow_other w g k cs hk⟩
theorem Upd.cell {g : Nat} {w w' : World} (h : Upd g w w') {a : Addr} (ha : a.block ≠ g) : w'.cell? a = w.cell? a := World.cell?_of_block (w := w) (h.block _ ha)
/-! ### whole structs and arrays in a block that is known -/
def isAggD : TypeDesc → Bool
  | .struct _ | .array _ _ => true
  | _ => false
section
variable {P : Program}
theorem run_load_blk (w : World) (g off n : Nat) (ty t : TypeId) (cs : Array Value) (fr : Nat × Nat) (d : TypeDesc) (hg : w.heap[g]? = some (.cells cs t fr))
    (hu : P.underlying ty = some d) (hd : isAggD d = true) (hi : (P.info? ty).map (·.size) = some n) (hn : off + n ≤ cs.size) :
    (loadVar ty ⟨g, off, none⟩).run P w = .ok (.agg (cs.extract off (off + n))) w := by
  have hl : (loadCells ⟨g, off, none⟩ (cs.extract off (off + n)).toList.length).run P w = .ok (cs.extract off (off + n)).toList.toArray w :=
    run_loadCells_list (P := P) w ⟨g, off, none⟩ (cs.extract off (off + n)).toList (fun j v hv => by
      have hadd : (⟨g, off, none⟩ : Addr).add j = ⟨g, off + j, none⟩ := by unfold Addr.add; split <;> simp_all
      rw [hadd, cell_of_row w g (off + j) cs t fr hg]
      rw [Array.getElem?_toList, Array.getElem?_extract] at hv
      split at hv
      · exact hv
      · cases hv)
  cases hq : P.info? ty with
  | none => simp [hq] at hi
  | some i =>
    have hs : i.size = n := by simpa [hq] using hi
    have hagg : (isAgg ty).run P w = .ok true w := by
      unfold isAgg
      rw [Sem.run_bind, run_underlying hu w]
      cases d <;> simp_all [isAggD]
    have hlen : (cs.extract off (off + n)).toList.length = n := by simp; omega
    rw [hlen] at hl
    simp only [Array.toArray_toList] at hl
    simp [loadVar, Sem.run_bind, hagg, sizeOf, typeInfo, hq, hs, hl]
theorem wpList_load_blk {ops : Array Oper} {rest : List Oper} {o : Oper} {a : Act} {w : World} {Q : Exit → Act → World → Prop} (hgd : o.guard = none) (ty : TypeId) (x : Operand) (ho : o.op = .load ty x)
    (g off n : Nat) (hx : a.eval x = .pointer (some ⟨g, off, none⟩)) (t : TypeId) (cs : Array Value) (fr : Nat × Nat) (d : TypeDesc) (hg : w.heap[g]? = some (.cells cs t fr))
    (hu : P.underlying ty = some d) (hd : isAggD d = true) (hi : (P.info? ty).map (·.size) = some n) (hn : off + n ≤ cs.size) (vs : Array Value) (hvs : cs.extract off (off + n) = vs)
    (h : wpList P ops Q rest (a.put o.dst (.agg vs)) w) : wpList P ops Q (o :: rest) a w := by
  subst hvs
  refine wpList_plain hgd fun K hK => ?_
  unfold Oper.wp execOp
  simp only [ho, hx, Instr.loadAt, Instr.sureAddr, Sem.run_bind, Sem.run_pure, Result.andThen_ok, run_load_blk w g off n ty t cs fr d hg hu hd hi hn]
  exact hK _ _ h
theorem run_store_blk (w : World) (g off : Nat) (ty t : TypeId) (cs : Array Value) (v : Value) (hg : w.heap[g]? = some (.cells cs t (0, 0)))
    (hi : (P.info? ty).map (·.size) = some v.cells.size) (hn : off + v.cells.size ≤ cs.size) (h1 : ∀ u ∈ v.cells.toList, u.oneCell' = true) :
    (storeVar ty ⟨g, off, none⟩ v).run P w = .ok () (w.setRow g (cs.toList.take off ++ v.cells.toList ++ cs.toList.drop (off + v.cells.size)).toArray) := by
  cases hq : P.info? ty with
  | none => simp [hq] at hi
  | some i =>
    have hs : i.size = v.cells.size := by simpa [hq] using hi
    have h := run_storeCells_at P g off t v.cells.toList 0 cs w hg (by simpa using hn) h1
    simp only [Nat.add_zero, Array.length_toList] at h
    simp only [storeVar, sizeOf, typeInfo, Sem.run_bind]
    simp [hq, hs, h]
theorem wpList_store_blk {ops : Array Oper} {rest : List Oper} {o : Oper} {a : Act} {w : World} {Q : Exit → Act → World → Prop} (hgd : o.guard = none) (ty : TypeId) (x y : Operand) (ho : o.op = .store ty x y)
    (g off : Nat) (hx : a.eval x = .pointer (some ⟨g, off, none⟩)) (t : TypeId) (cs : Array Value) (v : Value) (hy : a.eval y = v) (hg : w.heap[g]? = some (.cells cs t (0, 0)))
    (hi : (P.info? ty).map (·.size) = some v.cells.size) (hn : off + v.cells.size ≤ cs.size) (h1 : ∀ u ∈ v.cells.toList, u.oneCell' = true)
    (cs' : Array Value) (hcs : (cs.toList.take off ++ v.cells.toList ++ cs.toList.drop (off + v.cells.size)).toArray = cs')
    (h : ∀ w', w'.heap[g]? = some (.cells cs' t (0, 0)) → Upd g w w' → wpList P ops Q rest (a.put o.dst undef) w') : wpList P ops Q (o :: rest) a w := by
  subst hcs
  replace h := h _ (setRow_heap w g _ _ _ _ hg) (Upd.setRow g w _)
  refine wpList_plain hgd fun K hK => ?_
  unfold Oper.wp execOp
  simp only [ho, hx, hy, Instr.storeAt, Instr.sureAddr, Sem.run_bind, Sem.run_pure, Result.andThen_ok, run_store_blk w g off ty t cs v hg hi hn h1]
  exact hK _ _ h
end
end Go.Proofs.Ytfpocddpnoighaa.L

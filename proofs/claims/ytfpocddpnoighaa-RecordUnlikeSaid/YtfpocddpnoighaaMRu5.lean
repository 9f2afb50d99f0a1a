/- wire: a writer as it lies in memory; copyCheck, WriteByte, WriteString. -/
import Derived.Lib.AppendStr
import Derived.Lib.Builder
import Derived.Lib.FrozenHead
import Derived.Lib.UnsafeStr
import Derived.Test.YtfpocddpnoighaaProg
import Derived.Test.YtfpocddpnoighaaMRu3
import Derived.Test.YtfpocddpnoighaaMRu4
namespace Go.Proofs.Ytfpocddpnoighaa.Wr
open Go.RowKit Go.Proofs.Ytfpocddpnoighaa.L Go.Proofs.Ytfpocddpnoighaa.A Go.Proofs.Ytfpocddpnoighaa.S Go.Proofs.Ytfpocddpnoighaa.T
set_option linter.unusedVariables false
set_option linter.unusedSimpArgs false

/-- the types of blocks that a writer may be. -/
def WT (T : TypeId) : Prop := T = 30 ∨ T = 65
theorem WT.lies {T : TypeId} (h : WT T) : liesAt Try.prog Try.prog.depth T (3 / Try.prog.cellsOf T) 0 28 1 = true := by
  rcases h with rfl | rfl <;> kernel_rfl
/-- a writer: its block b, the block of its bytes r, its bytes, whether it is bad. -/
structure Wr (w : World) (b : Nat) (r : Option Nat) (bs : List UInt8) (bad : Bool) : Prop where
  out : ∃ T p v, WT T ∧ w.heap[b]? = some (.cells #[p, v, .bool bad] T (0, 0)) ∧ (p = .pointer none ∨ p = .pointer (some ⟨b, 0, none⟩)) ∧ w.ownsRow 0 5 1 v bs.length (Lib.byteCells bs) ∧ v.ownBlock = r
  ne : r ≠ some b
  nil : bs = [] → r = none
theorem Wr.lt {w : World} {b : Nat} {r : Option Nat} {bs : List UInt8} {bad : Bool} (h : Wr w b r bs bad) : b < w.heap.size ∧ ∀ k, r = some k → k < w.heap.size := by
  obtain ⟨T, p, v, _, hb, _, ho, hr⟩ := h.out
  exact ⟨(Array.getElem?_eq_some_iff.1 hb).1, fun k hk => (ho.lt k (hr.trans hk)).2⟩
theorem Wr.keep {S : List Nat} {w w' : World} {b : Nat} {r : Option Nat} {bs : List UInt8} {bad : Bool} (h : Wr w b r bs bad) (hk : Keep S w w') (hb : b ∉ S) (hr : ∀ k, r = some k → k ∉ S) : Wr w' b r bs bad := by
  obtain ⟨T, p, v, hT, hg, hp, ho, hv⟩ := h.out
  exact ⟨⟨T, p, v, hT, keep_block hk hg hb, hp, own_keep ho hk fun k hk => hr k (hv.symm.trans hk), hv⟩, h.ne, h.nil⟩
/-- what a call may have made of a writer, since w0: no block but those of S, and new ones, was written. -/
structure Wrs (w0 : World) (b : Nat) (S : List Nat) (bs : List UInt8) (bad : Bool) (w : World) : Prop where
  out : ∃ r, Wr w b r bs bad ∧ ∀ k, r = some k → k ∈ S ∨ w0.heap.size ≤ k
  keep : Keep S w0 w
  own : b ∈ S ∨ w0.heap.size ≤ b
def blks (b : Nat) (r : Option Nat) : List Nat := b :: r.toList
theorem mem_blks {b : Nat} {r : Option Nat} {k : Nat} : k ∈ blks b r ↔ k = b ∨ r = some k := by
  unfold blks
  cases r <;> simp [eq_comm]
theorem Wrs.refl {w : World} {b : Nat} {r : Option Nat} {bs : List UInt8} {bad : Bool} (h : Wr w b r bs bad) : Wrs w b (blks b r) bs bad w :=
  ⟨⟨r, h, fun k hk => .inl (mem_blks.2 (.inr hk))⟩, Keep.refl _ _, .inl (mem_blks.2 (.inl rfl))⟩
theorem Wrs.step {w0 w w' : World} {b : Nat} {S : List Nat} {r : Option Nat} {bs' : List UInt8} {bad' : Bool} (hk : Keep S w0 w) (ho : b ∈ S ∨ w0.heap.size ≤ b) (hr : ∀ k, r = some k → k ∈ S ∨ w0.heap.size ≤ k) (h : Wrs w b (blks b r) bs' bad' w') : Wrs w0 b S bs' bad' w' := by
  have hsz := hk.size
  have hK : Keep S w0 w' := ⟨h.keep.os.trans hk.os, h.keep.tape.trans hk.tape, h.keep.output.trans hk.output, Nat.le_trans hk.size h.keep.size, fun k hk1 hk2 => by
    refine (h.keep.block k (by omega) fun hm => ?_).trans (hk.block k hk1 hk2)
    rcases mem_blks.1 hm with rfl | hm
    · rcases ho with ho | ho
      · exact hk2 ho
      · omega
    · rcases hr k hm with h1 | h1
      · exact hk2 h1
      · omega⟩
  obtain ⟨r', h1, h2⟩ := h.out
  refine ⟨⟨r', h1, fun k hk => ?_⟩, hK, ho⟩
  rcases h2 k hk with h3 | h3
  · rcases mem_blks.1 h3 with rfl | h3
    · exact absurd hk h1.ne
    · exact hr k h3
  · exact .inr (by omega)
theorem Wrs.trans {w0 w w' : World} {b : Nat} {S : List Nat} {bs bs' : List UInt8} {bad bad' : Bool} (h : Wrs w0 b S bs bad w) (c : ∀ r, Wr w b r bs bad → Wrs w b (blks b r) bs' bad' w') : Wrs w0 b S bs' bad' w' := by
  obtain ⟨r, h1, h2⟩ := h.out
  exact Wrs.step h.keep h.own h2 (c r h1)
/-- a contract, said since w0. -/
theorem acc {w0 w : World} {b : Nat} {S : List Nat} {bs bs' : List UInt8} {bad bad' : Bool} {fn : FuncId} {args : Array Value} {E : Ending → Prop} (h : Wrs w0 b S bs bad w)
    (c : ∀ r, Wr w b r bs bad → Calls Try.prog fn args w fun e w' => E e ∧ Wrs w b (blks b r) bs' bad' w') : Calls Try.prog fn args w fun e w' => E e ∧ Wrs w0 b S bs' bad' w' := by
  obtain ⟨r, h1, h2⟩ := h.out
  exact (c r h1).mono fun e w' ⟨he, hw⟩ => ⟨he, Wrs.step h.keep h.own h2 hw⟩
theorem Wrs.below {w0 w w' : World} {b : Nat} {S : List Nat} {bs : List UInt8} {bad : Bool} (h : Wrs w0 b S bs bad w) (hb : Below w.heap.size w w') : Wrs w0 b S bs bad w' := by
  obtain ⟨r, h1, h2⟩ := h.out
  exact ⟨⟨r, h1.keep (S := []) (.of_below hb) (by simp) (by simp), h2⟩, h.keep.trans (.of_below hb), h.own⟩
theorem Wr.below {w w' : World} {b : Nat} {r : Option Nat} {bs : List UInt8} {bad : Bool} (h : Wr w b r bs bad) (hb : Below w.heap.size w w') : Wr w' b r bs bad := h.keep (S := []) (.of_below hb) (by simp) (by simp)
/-- a new one. -/
theorem wr_new (w : World) (T : TypeId) (hT : WT T) : Wr (w.alloc (.cells #[.pointer none, .slice none 0 0, .bool false] T)) w.heap.size none [] false :=
  ⟨⟨T, _, _, hT, heap_alloc_new _ _, .inl rfl, World.ownsRow_nil _ _ _ _, rfl⟩, by simp, fun _ => rfl⟩
theorem wrs_new (w : World) (T : TypeId) (hT : WT T) : Wrs w w.heap.size [] [] false (w.alloc (.cells #[.pointer none, .slice none 0 0, .bool false] T)) :=
  ⟨⟨none, wr_new w T hT, by simp⟩, (Keep.refl _ _).alloc _, .inr (Nat.le_refl _)⟩

/-! ### strings.Builder -/
set_option maxHeartbeats 4000000 in
set_option maxRecDepth 100000 in
theorem copy_check (b : Nat) (T : TypeId) (p v : Value) (bad : Bool) (w : World) (hT : WT T) (hb : w.heap[b]? = some (.cells #[p, v, .bool bad] T (0, 0))) (hp : p = .pointer none ∨ p = .pointer (some ⟨b, 0, none⟩)) :
    Calls Try.prog 134 #[.pointer (some ⟨b, 0, none⟩)] w fun e w' => e = .returned (.tuple #[]) ∧ w'.heap[b]? = some (.cells #[.pointer (some ⟨b, 0, none⟩), v, .bool bad] T (0, 0)) ∧ Keep [b] w w' ∧ w'.heap.size = w.heap.size := by
  have c0 : w.cell? ⟨b, 0, none⟩ = some p := by rw [cell_of_row _ _ _ _ _ _ hb]; rfl
  have f0 : w.frozen? ⟨b, 0, none⟩ = false := by simp [World.frozen?, hb]
  have hsh : w.shape? b = some (T, 3) := by simp [World.shape?, hb]
  obtain ⟨j, hj, hjs⟩ : ∃ j, Try.prog.info? 28 = some j ∧ j.size = 2 := by
    have : (Try.prog.info? 28).map (·.size) = some 2 := by kernel_rfl
    exact Option.map_eq_some_iff.1 this
  rcases hp with rfl | rfl
  · go_enter Try.func134, Try.ntmps134
    go_wp2
    rw [Lib.run_to_unsafe w ⟨b, 0, none⟩ (src := 25) (dst := 181) (t := 28) (by kernel_rfl) (by kernel_rfl) hj (by rw [hjs]; decide) hsh (Nat.zero_lt_succ 2)]
    simp only [Result.andThen]
    rw [Oper.upon_value]
    go_wp2
    rw [run_callFunc_extern Try.func138 (by kernel_rfl) (by kernel_rfl) (by kernel_rfl) (e := Extern.AbiNoEscape.same) (by kernel_rfl)]
    rw [Lib.run_noEscape]
    simp only [Result.andThen]
    rw [Oper.upon_value]
    go_wp2
    rw [Lib.run_from_unsafe w ⟨b, 0, none⟩ (src := 181) (dst := 25) (u := 28) (by kernel_rfl) (by kernel_rfl) hj hsh hT.lies]
    simp only [Result.andThen]
    rw [Oper.upon_value]
    go_wp2
    go_end0
    refine ⟨rfl, ?_, (Keep.refl _ _).setCell (.inl (by simp)) _, by simp [World.setCell]⟩
    exact heap_setCell_at w b 0 _ _ _ _ hb
  · have hne : ∀ w, (binOp .neq 25 (.pointer (some ⟨b, 0, none⟩)) (.pointer (some ⟨b, 0, none⟩))).run Try.prog w = .ok (.bool false) w := fun w => Lib.run_neq_ptr_same w _ (by kernel_rfl) hj
    go_enter Try.func134, Try.ntmps134
    go_wp2
    go_end0
    exact ⟨rfl, hb, Keep.refl _ _, rfl⟩

/-- append of a string: onto the same block, or onto a new one. -/
theorem run_append_str {P : Program} (w : World) (t u ty e : TypeId) (ht : P.underlying t = some (.slice e)) (hu : P.underlying u = some .string) (hinfo : (P.info? e).map (fun i => (i.zero, i.size, i.bytes)) = some (some (.int .u8 0), 1, 1))
    (v : Value) (n : Nat) (xs : List Value) (hown : w.ownsRow 0 e 1 v n xs) (s : ByteArray) (hbytes : n + s.size ≤ 140737488355328) :
    ∃ v' w', (Builtin.append_ #[t, u] ty #[v, .string s]).run P w = .ok v' w' ∧ w'.ownsRow 0 e 1 v' (n + s.size) (xs ++ Lib.strCells s) ∧ w.grownBy w' v.ownBlock ∧ (v'.ownBlock = v.ownBlock ∨ ∃ k, v'.ownBlock = some k ∧ w.heap.size ≤ k) ∧ (v.ownBlock = none → s.size = 0 → v'.ownBlock = none) := by
  obtain ⟨i0, hi, hzz⟩ := Option.map_eq_some_iff.1 hinfo
  simp only [Prod.mk.injEq] at hzz
  obtain ⟨hz0, hz1, hz2⟩ := hzz
  have hlen : n + s.size ≤ maxLen := by simp only [maxLen]; omega
  obtain ⟨v', w', hr, h2, h3, h4⟩ := Lib.run_append_own_string (P := P) w 0 t u ty e i0 ht hu hi hz0 hz1 hz2 v n xs hown s hlen hbytes (Nat.zero_le _)
  have hn : v.ownBlock = none → s.size = 0 → v'.ownBlock = none := fun hv hs => by
    rcases hown.2 with ⟨hv2, _⟩ | ⟨g, cap, cur, hv2, _⟩
    · rw [h4.2 ⟨hv2, hs⟩]; rfl
    · rw [hv2] at hv; cases hv
  refine ⟨v', w', hr, h2, h3, ?_, hn⟩
  rcases hown.2 with ⟨rfl, rfl⟩ | ⟨g, cap, cur, rfl, _, hg, hnc, hcm, hcs, htake⟩
  · obtain ⟨v2, w2, hr2, k2, k3, k4⟩ := Lib.run_append_own_string (P := P) w w.heap.size t u ty e i0 ht hu hi hz0 hz1 hz2 _ 0 xs ⟨hown.1, .inl ⟨rfl, rfl⟩⟩ s hlen hbytes (Nat.le_refl _)
    rw [hr] at hr2
    injection hr2 with e1 e2
    subst e1; subst e2
    cases hv : v'.ownBlock with
    | none => exact .inl rfl
    | some k => exact .inr ⟨k, rfl, (k2.lt k hv).1⟩
  · have hxl : xs.length = n := by simpa using hown.1
    by_cases hroom : n + s.size ≤ cap
    · have hr2 := Lib.run_append_room_string (P := P) w t u ty e i0 ht hu hi hz1 g n cap cur hg s hroom (by simp at hcs; omega)
      rw [hr] at hr2
      injection hr2 with e1 e2
      subst e1
      exact .inl rfl
    · have holds : ∀ j u, xs[j]? = some u → w.cell? ((⟨g, 0, none⟩ : Addr).add j) = some u := hown.cells (g := g) rfl
      have hr2 := Lib.run_append_grow_string (P := P) w t u ty e i0 (.int .u8 0) ht hu hi hz0 ⟨g, 0, none⟩ n cap xs (by rw [hz1]; simpa using hxl) holds s (by omega) (by omega) (by rw [hz2]; exact growslice_fits (by omega) (by omega))
      rw [hr] at hr2
      injection hr2 with e1 e2
      subst e1
      exact .inr ⟨_, rfl, Nat.le_refl _⟩
theorem wpList_append_str {P : Program} {w : World} {ops : Array Oper} {rest : List Oper} {o : Oper} {a : Act} {Q : Exit → Act → World → Prop} (hgd : o.guard = none) (sl x : Operand) (t u e : TypeId)
    (ho : o.op = .call { callee := .builtin .append, args := #[sl, x], argTypes := #[t, u] }) (ht : P.underlying t = some (.slice e)) (hu : P.underlying u = some .string) (hinfo : (P.info? e).map (fun i => (i.zero, i.size, i.bytes)) = some (some (.int .u8 0), 1, 1))
    (v : Value) (n : Nat) (xs : List Value) (hs : a.eval sl = v) (hown : w.ownsRow 0 e 1 v n xs) (s : ByteArray) (hx : a.eval x = .string s) (hbytes : n + s.size ≤ 140737488355328)
    (h : ∀ v' w', w'.ownsRow 0 e 1 v' (n + s.size) (xs ++ Lib.strCells s) → w.grownBy w' v.ownBlock → (v'.ownBlock = v.ownBlock ∨ ∃ k, v'.ownBlock = some k ∧ w.heap.size ≤ k) → (v.ownBlock = none → s.size = 0 → v'.ownBlock = none) → wpList P ops Q rest (a.put o.dst v') w') : wpList P ops Q (o :: rest) a w := by
  refine wpList_plain hgd fun K hK => ?_
  obtain ⟨v', w', hr, h2, h3, h4, h5⟩ := run_append_str (P := P) w t u o.type e ht hu hinfo v n xs hown s hbytes
  unfold Oper.wp execOp
  simp only [ho, resolve, invoke, builtin, Sem.run_bind, Sem.run_pure, Result.andThen_ok, List.map_toArray, List.map_cons, List.map_nil, hs, hx, hr]
  exact hK _ _ (h v' w' h2 h3 h4 h5)
theorem own_shape {w : World} {base : Nat} {e : TypeId} {size n : Nat} {v : Value} {xs : List Value} (h : w.ownsRow base e size v n xs) : ∃ a m c, v = .slice a m c := by
  rcases h.2 with ⟨hv, _⟩ | ⟨g, cap, cur, hv, _⟩
  · exact ⟨_, _, _, hv⟩
  · exact ⟨_, _, _, hv⟩
theorem mid {w1 w2 : World} {b : Nat} {r : Option Nat} {T : TypeId} {p v : Value} {bad : Bool} (hne : r ≠ some b) (hr : v.ownBlock = r) (hb1 : w1.heap[b]? = some (.cells #[p, v, .bool bad] T (0, 0))) (hg2 : w1.grownBy w2 v.ownBlock) :
    w1.grownBy w2 r ∧ w2.cell? ⟨b, 1, none⟩ = some v ∧ w2.frozen? ⟨b, 1, none⟩ = false := by
  subst hr
  have hb2 : w2.heap[b]? = some (.cells #[p, v, .bool bad] T (0, 0)) := (hg2.block b (Array.getElem?_eq_some_iff.1 hb1).1 (fun e => hne e.symm)).trans hb1
  exact ⟨hg2, by rw [cell_of_row _ _ _ _ _ _ hb2]; rfl, by simp [World.frozen?, hb2]⟩
theorem grown_alloc {w1 w2 : World} {o : Obj} {r : Option Nat} (hg2 : (w1.alloc o).grownBy w2 r) : w1.grownBy w2 r :=
  ⟨hg2.os, hg2.tape, hg2.output, by have := hg2.size; simp at this; omega, fun k hk hkr => (hg2.block k (by simp; omega) hkr).trans (heap_alloc_old _ _ hk)⟩
/-- behind a write: the new row is laid into the block. -/
theorem wrs_put {w w1 w2 : World} {b : Nat} {T : TypeId} {v v' : Value} {bad : Bool} {bs' : List UInt8} {r : Option Nat} (hT : WT T) (hr : v.ownBlock = r) (hne : r ≠ some b) (hk : Keep [b] w w1) (hb1 : b < w.heap.size)
    (h1 : w1.heap[b]? = some (.cells #[.pointer (some ⟨b, 0, none⟩), v, .bool bad] T (0, 0))) (hg : w1.grownBy w2 r) (ho : w2.ownsRow 0 5 1 v' bs'.length (Lib.byteCells bs')) (hv : v'.ownBlock = r ∨ ∃ k, v'.ownBlock = some k ∧ w.heap.size ≤ k) (hnil : bs' = [] → v'.ownBlock = none) :
    Wrs w b (blks b r) bs' bad (w2.setCell ⟨b, 1, none⟩ v') := by
  have hlt1 : b < w1.heap.size := (Array.getElem?_eq_some_iff.1 h1).1
  have h2 : w2.heap[b]? = some (.cells #[.pointer (some ⟨b, 0, none⟩), v, .bool bad] T (0, 0)) := (hg.block b hlt1 (fun e => hne e.symm)).trans h1
  have hvb : v'.ownBlock ≠ some b := by
    rcases hv with h | ⟨k, h, hk⟩
    · rw [h]; exact hne
    · rw [h]; intro e; injection e with e; omega
  have hK : Keep (blks b r) w (w2.setCell ⟨b, 1, none⟩ v') := by
    refine Keep.setCell (p := ⟨b, 1, none⟩) ((hk.mono fun x hx => mem_blks.2 (.inl (by simpa using hx))).trans (keep_grown hg _ fun k hk hlt => mem_blks.2 (.inr hk))) (.inl (mem_blks.2 (.inl rfl))) _
  refine ⟨⟨v'.ownBlock, ⟨⟨T, _, _, hT, heap_setCell_at w2 b 1 _ _ _ _ h2, .inr rfl, ?_, rfl⟩, hvb, hnil⟩, fun k hk => ?_⟩, hK, .inl (mem_blks.2 (.inl rfl))⟩
  · exact ho.kept (row := some b) ⟨rfl, rfl, rfl, by simp [World.setCell], fun k _ hk => Below.heap_setCell _ _ _ _ (fun e => hk (by simp [e]))⟩ (.inr hvb)
  · rcases hv with h | ⟨k', h, hk'⟩
    · exact .inl (mem_blks.2 (.inr (h.symm.trans hk)))
    · rw [h] at hk; injection hk with hk; subst hk; exact .inr hk'

set_option maxHeartbeats 4000000 in
set_option maxRecDepth 100000 in
theorem write_byte (b : Nat) (r : Option Nat) (bs : List UInt8) (bad : Bool) (c : UInt8) (w : World) (h : Wr w b r bs bad) (hlen : bs.length + 1 ≤ 140737488355328) :
    Calls Try.prog 125 #[.pointer (some ⟨b, 0, none⟩), .int .u8 (c.toNat : Nat)] w fun e w' => e = .returned .nilIface ∧ Wrs w b (blks b r) (bs ++ [c]) bad w' := by
  obtain ⟨T, p, v, hT, hb, hp, ho, hr⟩ := h.out
  have hne := h.ne
  have hlt := h.lt.1
  have hnil := Lib.hid h.nil
  have HC := Lib.hid (copy_check b T p v bad w hT hb hp)
  clear h hp
  obtain ⟨cn, hcn⟩ : ∃ cn : Nat, Hid (c.toNat = cn) := ⟨_, Lib.hid rfl⟩
  rw [hcn.out]
  go_enter Try.func125, Try.ntmps125
  go_wp2_with fail
  refine HC.out.mono ?_
  rintro e w1 ⟨rfl, hb1, hk1, hs0⟩
  have hs1 := Lib.hid hs0
  clear hs0
  have c1 : w1.cell? ⟨b, 1, none⟩ = some v := by rw [cell_of_row _ _ _ _ _ _ hb1]; rfl
  have ho1 := own_keep ho hk1 (fun k hk => by rw [hr] at hk; intro hm; simp at hm; subst hm; exact hne hk)
  go_wp2_with (at_builtin; (refine wpList_append_src _ rfl (.tmp 11) (.tmp 13) 0 26 5 (.int .u8 0) 1 1 rfl (by kernel_rfl) (by kernel_rfl) rfl (by decide) (by decide) v bs.length _ rfl (ho1.alloc _) (some ⟨w1.heap.size, 0, none⟩) 1 1 rfl (fun h => by cases h) [.int .u8 cn] rfl (lies_block (heap_alloc_new _ _)) (by simp [Value.oneCell']) (by omega) (Nat.zero_le _) ?_); intro v2 w2 ho2 hg2 hv2; obtain ⟨ao, nn, cap, rfl⟩ := own_shape ho2; obtain ⟨hg, d1, f1⟩ := mid hne hr hb1 (grown_alloc hg2))
  have hW := Lib.hid (wrs_put (bs' := bs ++ [c]) hT hr hne hk1 hlt hb1 hg (by simpa [Lib.byteCells, hcn.out] using ho2) (by
    rcases hv2 with h | h
    · exact .inl (h.trans hr)
    · exact .inr ⟨_, h, by have := hs1.out; simp; omega⟩) (by simp))
  go_ret
  exact ⟨rfl, hW.out⟩
set_option maxHeartbeats 4000000 in
set_option maxRecDepth 100000 in
theorem write_string (b : Nat) (r : Option Nat) (bs : List UInt8) (bad : Bool) (s : ByteArray) (w : World) (h : Wr w b r bs bad) (hlen : bs.length + s.size ≤ 140737488355328) :
    Calls Try.prog 124 #[.pointer (some ⟨b, 0, none⟩), .string s] w fun e w' => e = .returned (.tuple #[.int .i64 (s.size : Nat), .nilIface]) ∧ Wrs w b (blks b r) (bs ++ s.data.toList) bad w' := by
  obtain ⟨T, p, v, hT, hb, hp, ho, hr⟩ := h.out
  have hne := h.ne
  have hlt := h.lt.1
  have hnil := Lib.hid h.nil
  have HC := Lib.hid (copy_check b T p v bad w hT hb hp)
  clear h hp
  go_enter Try.func124, Try.ntmps124
  go_wp2_with fail
  refine HC.out.mono ?_
  rintro e w1 ⟨rfl, hb1, hk1, hs0⟩
  have hs1 := Lib.hid hs0
  clear hs0
  have c1 : w1.cell? ⟨b, 1, none⟩ = some v := by rw [cell_of_row _ _ _ _ _ _ hb1]; rfl
  have ho1 := own_keep ho hk1 (fun k hk => by rw [hr] at hk; intro hm; simp at hm; subst hm; exact hne hk)
  go_wp2_with (at_builtin; refine wpList_append_str rfl (.tmp 12) (.tmp 13) 26 9 5 rfl (by kernel_rfl) (by kernel_rfl) (by kernel_rfl) v bs.length _ rfl ho1 s rfl (by omega) ?_; intro v2 w2 ho2 hg2 hv2 hn2; obtain ⟨ao, nn, cap, rfl⟩ := own_shape ho2; obtain ⟨hg, d1, f1⟩ := mid hne hr hb1 hg2)
  have hW := Lib.hid (wrs_put (bs' := bs ++ s.data.toList) hT hr hne hk1 hlt hb1 hg (by rw [Lib.byteCells_append, ← Lib.strCells_eq, List.length_append]; exact ho2) (by
    rcases hv2 with h | ⟨k, h, hk⟩
    · exact .inl (h.trans hr)
    · exact .inr ⟨_, h, by have := hs1.out; omega⟩) (fun h0 => by
    obtain ⟨h01, h02⟩ := List.append_eq_nil_iff.1 h0
    refine hn2 (hr.trans (hnil.out h01)) ?_
    have : s.data.toList.length = 0 := by rw [h02]; rfl
    rw [Array.length_toList] at this
    exact this))
  go_ret2
  exact ⟨rfl, hW.out⟩
end Go.Proofs.Ytfpocddpnoighaa.Wr

/- wire: the writer's methods. -/
namespace Go.Proofs.Ytfpocddpnoighaa.Wr
open Go.RowKit Go.Proofs.Ytfpocddpnoighaa.L Go.Proofs.Ytfpocddpnoighaa.A Go.Proofs.Ytfpocddpnoighaa.S Go.Proofs.Ytfpocddpnoighaa.T
set_option linter.unusedVariables false
set_option linter.unusedSimpArgs false

theorem Rd.keep0 {S : List Nat} {w w1 : World} {A : Option Addr} {n : Nat} {xs : List Value} (h : Rd w A n xs) (hb : Keep S w w1) (hs : 0 < n → ∀ o, A = some o → o.block ∉ S) : Rd w1 A n xs :=
  ⟨h.1, h.2.1, fun hn => by
    obtain ⟨b, o, e, hc⟩ := h.2.2 hn
    refine ⟨b, o, e, fun j hj => ?_⟩
    have h0 := hc j hj
    have hx : j < xs.length := by have := h.1; omega
    rw [List.getElem?_eq_getElem hx] at h0 ⊢
    exact (hb.cell (World.block_lt_of_cell? w _ h0) (hs hn ⟨b, o, none⟩ e)).trans h0⟩
theorem take_snoc {α : Type} (l : List α) (k : Nat) (h : k < l.length) : l.take k ++ [l[k]] = l.take (k + 1) := by rw [List.take_succ_eq_append_getElem h]

set_option maxHeartbeats 4000000 in
set_option maxRecDepth 100000 in
theorem byte_any (b : Nat) (r : Option Nat) (bs : List UInt8) (bad : Bool) (l : List UInt8) (A : Option Addr) (n c : Nat) (w : World) (h : Wr w b r bs bad) (hr : Rd w A n (Lib.byteCells l)) (hA : 0 < n → ∀ o, A = some o → o.block ∉ blks b r) (hlen : bs.length + l.length ≤ 140737488355328) :
    Calls Try.prog 78 #[.pointer (some ⟨b, 0, none⟩), .slice A n c] w fun e w' => e = .returned (.tuple #[]) ∧ Wrs w b (blks b r) (bs ++ l) bad w' := by
  have hln := hr.2.1
  have HR := Lib.hid hr
  have HL : Hid (l.length = n) := Lib.hid (by simpa [Lib.byteCells] using hr.len)
  have HA := Lib.hid hA
  have H0 := Lib.hid (Wrs.refl h)
  have hlen := Lib.hid hlen
  clear h hr hA
  go_enter Try.func78, Try.ntmps78
  go_wp2
  go_loopw [8] (fun i wr => ∃ k : Nat, k ≤ n ∧ i = .int .i64 k ∧ Wrs w b (blks b r) (bs ++ l.take k) bad wr) (fun i _ => n - (intOf i).toNat)
  case atStart => exact ⟨0, by omega, rfl, by simpa using H0.out⟩
  case round =>
    obtain ⟨k, hk, rfl, hW⟩ := hrel
    by_cases hlt : k < n
    · have hrk := Rd.keep0 HR.out hW.keep HA.out
      obtain ⟨ab, ao, hAe, hc⟩ := hrk.2.2 (by omega)
      subst hAe
      have hkl : k < l.length := by have := HL.out; omega
      obtain ⟨x, hx⟩ : ∃ x, Hid (x = l[k]) := ⟨_, Lib.hid rfl⟩
      have c0 := hc k hlt
      rw [Lib.byteCells, List.getElem?_map, List.getElem?_eq_getElem hkl, ← hx.out] at c0
      simp only [Option.map_some] at c0
      have HC := Lib.hid (acc hW (fun r1 h1 => write_byte b r1 _ bad x wr h1 (by have := hlen.out; simp; omega)))
      clear hc hrk hW
      go_wp2_with fail
      refine HC.out.mono ?_
      rintro e w1 ⟨rfl, hW1⟩
      go_wp2
      go_roundw
      case rel => exact ⟨k + 1, by omega, by go_num, by rw [← take_snoc l k hkl, ← hx.out, ← List.append_assoc]; exact hW1⟩
      case measure => simp [intOf]; omega
    · have hkn : n = k := by omega
      have hres : Hid (Wrs w b (blks b r) (bs ++ l) bad wr) := Lib.hid (by
        rw [List.take_of_length_le (by have := HL.out; omega)] at hW; exact hW)
      go_wp2
      go_end0
      exact ⟨rfl, hres.out⟩

def okN (n : Int) : Bool := decide (0 ≤ n) && decide (n ≤ 65535)
theorem wrs_bad {w : World} {b : Nat} {r : Option Nat} {bs : List UInt8} {bad : Bool} (h : Wr w b r bs bad) (bad' : Bool) : Wrs w b (blks b r) bs bad' (w.setCell ⟨b, 2, none⟩ (.bool bad')) := by
  obtain ⟨T, p, v, hT, hb, hp, ho, hr⟩ := h.out
  refine ⟨⟨r, ⟨⟨T, p, v, hT, heap_setCell_at w b 2 _ _ _ _ hb, hp, ?_, hr⟩, h.ne, h.nil⟩, fun k hk => .inl (mem_blks.2 (.inr hk))⟩, (Keep.refl _ _).setCell (p := ⟨b, 2, none⟩) (.inl (mem_blks.2 (.inl rfl))) _, .inl (mem_blks.2 (.inl rfl))⟩
  exact ho.kept (row := some b) ⟨rfl, rfl, rfl, by simp [World.setCell], fun k _ hk => Below.heap_setCell _ _ _ _ (fun e => hk (by simp [e]))⟩ (.inr (by rw [hr]; exact h.ne))
theorem Wr.flag {w : World} {b : Nat} {r : Option Nat} {bs : List UInt8} {bad : Bool} (h : Wr w b r bs bad) : w.cell? ⟨b, 2, none⟩ = some (.bool bad) ∧ w.frozen? ⟨b, 2, none⟩ = false := by
  obtain ⟨T, p, v, hT, hb, hp, ho, hr⟩ := h.out
  exact ⟨by rw [cell_of_row _ _ _ _ _ _ hb]; rfl, by simp [World.frozen?, hb]⟩
set_option maxHeartbeats 4000000 in
set_option maxRecDepth 100000 in
theorem fits_any (b : Nat) (r : Option Nat) (bs : List UInt8) (bad : Bool) (n : Int) (w : World) (h : Wr w b r bs bad) :
    Calls Try.prog 123 #[.pointer (some ⟨b, 0, none⟩), .int .i64 n] w fun e w' => e = .returned (.bool (okN n)) ∧ Wrs w b (blks b r) bs (bad || !okN n) w' := by
  obtain ⟨c2, f2⟩ := h.flag
  have HT := Lib.hid (wrs_bad h true)
  have HF := Lib.hid (wrs_bad h false)
  clear h
  cases bad
  · by_cases h0 : n < 0
    · have hk : Hid (okN n = false) := Lib.hid (by simp [okN]; omega)
      rw [hk.out]
      have h1 : ¬ 0 ≤ n := by omega
      go_enter Try.func123, Try.ntmps123
      go_wp2
      go_ret
      exact ⟨rfl, HT.out⟩
    · by_cases h9 : 65535 < n
      · have hk : Hid (okN n = false) := Lib.hid (by simp [okN]; omega)
        rw [hk.out]
        have h1 : 0 ≤ n := by omega
        have h2 : ¬ n ≤ 65535 := by omega
        go_enter Try.func123, Try.ntmps123
        go_wp2
        go_ret
        exact ⟨rfl, HT.out⟩
      · have hk : Hid (okN n = true) := Lib.hid (by simp [okN]; omega)
        rw [hk.out]
        have h1 : 0 ≤ n := by omega
        have h2 : n ≤ 65535 := by omega
        go_enter Try.func123, Try.ntmps123
        go_wp2
        go_ret
        exact ⟨rfl, HF.out⟩
  · obtain ⟨k, hk⟩ : ∃ k, Hid (okN n = k) := ⟨_, Lib.hid rfl⟩
    rw [hk.out, Bool.true_or]
    by_cases h1 : 0 ≤ n
    · by_cases h2 : n ≤ 65535
      · have hkt : Hid (k = true) := Lib.hid (by rw [← hk.out]; simp [okN]; omega)
        go_enter Try.func123, Try.ntmps123
        go_wp2
        go_ret
        exact ⟨retb hkt.out, HT.out⟩
      · have hkf : Hid (k = false) := Lib.hid (by rw [← hk.out]; simp [okN]; omega)
        go_enter Try.func123, Try.ntmps123
        go_wp2
        go_ret
        exact ⟨retbf hkf.out, HT.out⟩
    · have hkf : Hid (k = false) := Lib.hid (by rw [← hk.out]; simp [okN]; omega)
      go_enter Try.func123, Try.ntmps123
      go_wp2
      go_ret
      exact ⟨retbf hkf.out, HT.out⟩
/-- a contract, said since w0, behind blocks that were laid. -/
theorem acc2 {w0 w w1 : World} {b : Nat} {S : List Nat} {bs bs' : List UInt8} {bad bad' : Bool} {fn : FuncId} {args : Array Value} {E : Ending → Prop} (h : Wrs w0 b S bs bad w) (hb : Below w.heap.size w w1)
    (c : ∀ r, Wr w1 b r bs bad → (∀ k, k ∈ blks b r → k < w.heap.size) → Calls Try.prog fn args w1 fun e w' => E e ∧ Wrs w1 b (blks b r) bs' bad' w') : Calls Try.prog fn args w1 fun e w' => E e ∧ Wrs w0 b S bs' bad' w' := by
  obtain ⟨r, h1, h2⟩ := h.out
  exact (c r (h1.below hb) (fun k hk => by rcases mem_blks.1 hk with rfl | hk; exact h1.lt.1; exact h1.lt.2 k hk)).mono fun e w' ⟨he, hw⟩ => ⟨he, Wrs.step (h.keep.trans (.of_below hb)) h.own h2 hw⟩
theorem rd_bytes {w : World} {g : Nat} {cs : Array Value} {t : TypeId} {fr : Nat × Nat} {l : List UInt8} (n : Nat) (h : w.heap[g]? = some (.cells cs t fr)) (hl : cs = (Lib.byteCells l).toArray) (hn : l.length = n) (hm : n ≤ 9223372036854775807) : Rd w (some ⟨g, 0, none⟩) n (Lib.byteCells l) := by
  subst hl
  exact rd_block h (by simpa [Lib.byteCells] using hn) hm
theorem rd_ints {w : World} {g : Nat} {cs : Array Value} {t : TypeId} {fr : Nat × Nat} {l : List Int} (n : Nat) (h : w.heap[g]? = some (.cells cs t fr)) (hl : cs = (l.map (Value.int .i64)).toArray) (hn : l.length = n) (hm : n ≤ 9223372036854775807) : Rd w (some ⟨g, 0, none⟩) n (l.map (Value.int .i64)) := by
  subst hl
  exact rd_block h (by simpa using hn) hm
/-- n's lowest bytes, the highest first. -/
def bigB (n size : Nat) : List UInt8 := (List.range size).map fun j => UInt8.ofNat (n / 256 ^ (size - 1 - j) % 256)
theorem big2 (m : Nat) (h : m ≤ 65535) : (Lib.byteCells (bigB m 2)).toArray = #[.int .u8 ((m : Int) / 256), .int .u8 ((m : Int) % 256)] := by
  have e1 : (m / 256 % 256 : Nat) = m / 256 := by omega
  simp [Lib.byteCells, bigB, List.range_succ, UInt8.toNat_ofNat']
  omega
set_option maxHeartbeats 4000000 in
set_option maxRecDepth 100000 in
theorem count_any (b : Nat) (r : Option Nat) (bs : List UInt8) (bad : Bool) (n : Int) (w : World) (h : Wr w b r bs bad) (hlen : bs.length + 2 ≤ 140737488355328) :
    Calls Try.prog 80 #[.pointer (some ⟨b, 0, none⟩), .int .i64 n] w fun e w' => e = .returned (.tuple #[]) ∧ Wrs w b (blks b r) (bs ++ if okN n then bigB n.toNat 2 else []) (bad || !okN n) w' := by
  have HC := Lib.hid (fits_any b r bs bad n w h)
  obtain ⟨q, hq⟩ : ∃ q, Hid ((bad || !okN n) = q) := ⟨_, Lib.hid rfl⟩
  rw [hq.out] at HC ⊢
  clear h
  cases hk : okN n
  · rw [hk] at HC
    go_enter Try.func80, Try.ntmps80
    go_wp2_with fail
    refine HC.out.mono ?_
    rintro e w1 ⟨rfl, hW⟩
    go_wp2
    go_end0
    exact ⟨rfl, by simpa using hW⟩
  · rw [hk] at HC
    obtain ⟨m, rfl, hm⟩ : ∃ m : Nat, n = m ∧ m ≤ 65535 := ⟨n.toNat, by simp [okN] at hk; omega, by simp [okN] at hk; omega⟩
    go_enter Try.func80, Try.ntmps80
    go_wp2_with fail
    refine HC.out.mono ?_
    rintro e w1 ⟨rfl, hW⟩
    go_wp2_with fail
    refine (acc2 hW (below_alloc _ _) (fun r1 h1 hlt => byte_any b r1 bs q (bigB m 2) _ 2 2 _ h1 (rd_bytes 2 (heap_alloc_new _ _) (big2 m hm).symm (by simp [bigB]) (by decide)) (fun _ o ho hm => by injection ho with ho; subst ho; exact absurd (hlt _ hm) (Nat.lt_irrefl _)) (by simp [bigB]; omega))).mono ?_
    rintro e w2 ⟨rfl, hW2⟩
    go_wp2
    go_end0
    exact ⟨rfl, by simpa using hW2⟩
/-- the bytes of numbers. -/
def u64 (n : Int) : Nat := (n % 18446744073709551616).toNat
def numsB (l : List Int) : List UInt8 := l.flatMap fun n => bigB (u64 n) 8
theorem u64_wrap (x : Int) : IntKind.u64.wrap x = (u64 x : Int) := by
  rw [IntKind.wrap_u64]; unfold u64; omega
theorem len_nums (l : List Int) : (numsB l).length = l.length * 8 := by
  induction l with
  | nil => rfl
  | cons x l ih => simp only [numsB, List.flatMap_cons, List.length_append] at ih ⊢; rw [ih]; simp [bigB]; omega
theorem len_big (n s : Nat) : (bigB n s).length = s := by simp [bigB]
theorem big_at (x : Int) (j : Nat) (hj : j < 8) (y : UInt8) (hy : y = (bigB (u64 x) 8)[j]'(by simp [bigB]; exact hj)) : IntKind.u64.wrap x / 2 ^ (56 - 8 * j) % 256 = ((y.toNat : Nat) : Int) := by
  subst hy
  rw [u64_wrap]
  have e : (2 : Int) ^ (56 - 8 * j) = ((256 ^ (7 - j) : Nat) : Int) := by
    have : (256 : Nat) ^ (7 - j) = 2 ^ (56 - 8 * j) := by
      rw [show (256 : Nat) = 2 ^ 8 from rfl, ← Nat.pow_mul]
      congr 1
      omega
    rw [this]
    simp
  rw [e]
  have : (u64 x : Int) / ((256 ^ (7 - j) : Nat) : Int) % 256 = ((u64 x / 256 ^ (7 - j) % 256 : Nat) : Int) := by omega
  rw [this]
  simp [bigB, UInt8.toNat_ofNat']
set_option maxHeartbeats 4000000 in
set_option maxRecDepth 100000 in
theorem nums_any (b : Nat) (r : Option Nat) (bs : List UInt8) (bad : Bool) (l : List Int) (A : Option Addr) (n c : Nat) (w : World) (h : Wr w b r bs bad) (hr : Rd w A n (l.map (Value.int .i64))) (hA : 0 < n → ∀ o, A = some o → o.block ∉ blks b r) (hlen : bs.length + l.length * 8 ≤ 140737488355328) :
    Calls Try.prog 76 #[.pointer (some ⟨b, 0, none⟩), .slice A n c] w fun e w' => e = .returned (.tuple #[]) ∧ Wrs w b (blks b r) (bs ++ numsB l) bad w' := by
  have hln := hr.2.1
  have HR := Lib.hid hr
  have HL : Hid (l.length = n) := Lib.hid (by simpa using hr.len)
  have HA := Lib.hid hA
  have H0 := Lib.hid (Wrs.refl h)
  have hlen := Lib.hid hlen
  clear h hr hA
  go_enter Try.func76, Try.ntmps76
  go_wp2
  go_loopw [9] (fun i wr => ∃ k : Nat, k ≤ n ∧ i = .int .i64 k ∧ Wrs w b (blks b r) (bs ++ numsB (l.take k)) bad wr) (fun i _ => n - (intOf i).toNat)
  case atStart => exact ⟨0, by omega, rfl, by simpa [numsB] using H0.out⟩
  case round =>
    obtain ⟨k, hk, rfl, hW⟩ := hrel
    by_cases hlt : k < n
    · have hrk := Rd.keep0 HR.out hW.keep HA.out
      obtain ⟨ab, ao, hAe, hc⟩ := hrk.2.2 (by omega)
      subst hAe
      have hkl : k < l.length := by have := HL.out; omega
      obtain ⟨x, hx⟩ : ∃ x, Hid (x = l[k]) := ⟨_, Lib.hid rfl⟩
      have c0 := hc k hlt
      rw [List.getElem?_map, List.getElem?_eq_getElem hkl, ← hx.out] at c0
      simp only [Option.map_some] at c0
      have HW := Lib.hid hW
      clear hc hrk hW
      go_wp2
      go_loopw [6] (fun i wq => ∃ j : Nat, j ≤ 8 ∧ i = .int .i64 (56 - 8 * (j : Int)) ∧ Wrs w b (blks b r) (bs ++ numsB (l.take k) ++ (bigB (u64 x) 8).take j) bad wq) (fun i _ => ((intOf i) + 8).toNat)
      case atStart => exact ⟨0, by omega, rfl, by simpa using HW.out⟩
      case round =>
        obtain ⟨j, hj, rfl, hW⟩ := hrel
        by_cases hjlt : j < 8
        · obtain ⟨y, hy⟩ : ∃ y, Hid (y = (bigB (u64 x) 8)[j]'(by rw [len_big]; exact hjlt)) := ⟨_, Lib.hid rfl⟩
          obtain ⟨yn, hyn⟩ : ∃ yn : Nat, Hid (y.toNat = yn) := ⟨_, Lib.hid rfl⟩
          have hby := big_at x j hjlt y hy.out
          rw [hyn.out] at hby
          have HW1 := Lib.hid hW
          clear hW
          go_wp2_with fail
          refine (acc2 HW1.out (below_alloc _ _) (fun r1 h1 hlt => byte_any b r1 _ bad [y] _ 1 1 _ h1 (rd_bytes 1 (heap_alloc_new _ _) (by simp [Lib.byteCells, hyn.out]) rfl (by decide)) (fun _ o ho hm => by injection ho with ho; subst ho; exact absurd (hlt _ hm) (Nat.lt_irrefl _)) ?len)).mono ?_
          case len =>
            have := hlen.out
            have h8 := len_nums (l.take k)
            simp only [List.length_append, h8, List.length_take, len_big, List.length_cons, List.length_nil]
            omega
          rintro e w2 ⟨rfl, hW2⟩
          go_wp2
          go_roundw
          case rel => exact ⟨j + 1, by omega, by go_num, by rw [List.append_assoc, hy.out, take_snoc _ j (by rw [len_big]; exact hjlt)] at hW2; exact hW2⟩
          case measure => simp [intOf]; omega
        · have hj8 : 8 = j := by omega
          have hres : Hid (Wrs w b (blks b r) (bs ++ numsB (l.take (k + 1))) bad wr) := Lib.hid (by
            rw [List.take_of_length_le (l := bigB (u64 x) 8) (by rw [len_big]; omega), List.append_assoc] at hW
            rw [← take_snoc l k hkl, ← hx.out]
            simpa [numsB] using hW)
          clear hW
          subst hj8
          go_wp2
          go_roundw
          case rel => exact ⟨k + 1, by omega, by go_num, hres.out⟩
          case measure => simp [intOf]; omega
    · have hres : Hid (Wrs w b (blks b r) (bs ++ numsB l) bad wr) := Lib.hid (by
        rw [List.take_of_length_le (by have := HL.out; omega)] at hW; exact hW)
      go_wp2
      go_end0
      exact ⟨rfl, hres.out⟩
end Go.Proofs.Ytfpocddpnoighaa.Wr

/- wheel: keys; find; Contains; Stop. -/
import Derived.Test.YtbifmdepkbgnjaaWhA
import Derived.Test.YtbifmdepkbgnjaaR
namespace Go.Proofs.Ytbifmdepkbgnjaa.Wh
open Go.RowKit Go.Proofs.Ytbifmdepkbgnjaa.L Go.Proofs.Ytbifmdepkbgnjaa.R Go.Proofs.Ytbifmdepkbgnjaa.A Go.Proofs.Ytbifmdepkbgnjaa.S Go.Proofs.Ytbifmdepkbgnjaa.T Go.Proofs.Ytbifmdepkbgnjaa.C Go.Proofs.Ytbifmdepkbgnjaa.G Go.Proofs.Ytbifmdepkbgnjaa.E Go.Proofs.Ytbifmdepkbgnjaa.F
set_option linter.unusedVariables false
set_option linter.unusedSimpArgs false

abbrev KT : TypeId := 30
abbrev WT : TypeId := 63
abbrev Ky := Int × Int × Int × Int × Int × Int
def keyOf (t : Tm) : Ky := (t.1, t.2.1, t.2.2.1, t.2.2.2.1, t.2.2.2.2.1, t.2.2.2.2.2.1)
def dueOf (t : Tm) : Int := t.2.2.2.2.2.2
def mkT (k : Ky) (d : Int) : Tm := (k.1, k.2.1, k.2.2.1, k.2.2.2.1, k.2.2.2.2.1, k.2.2.2.2.2, d)
def encK (e : Ky) : List Value := [.int .i64 e.1, .int .i64 e.2.1, .int .i64 e.2.2.1, .int .i64 e.2.2.2.1, .int .i64 e.2.2.2.2.1, .int .i64 e.2.2.2.2.2]
def aggK (e : Ky) : Value := .agg #[.int .i64 e.1, .int .i64 e.2.1, .int .i64 e.2.2.1, .int .i64 e.2.2.2.1, .int .i64 e.2.2.2.2.1, .int .i64 e.2.2.2.2.2]
theorem encK_len (e : Ky) : (encK e).length = 6 := rfl
def tidB (a b c a' b' c' : Int) : Bool := a == a' && (b == b' && c == c')
theorem tid_eq' (d : Nat) (a b c a' b' c' : Int) (w : World) : (Op.equalIn (d + 4) 28 (.agg #[.int .i64 a, .int .i64 b, .int .i64 c]) (.agg #[.int .i64 a', .int .i64 b', .int .i64 c'])).run Try.prog w = .ok (tidB a b c a' b' c') w := by
  have hp : Try.prog.stoodInHeld 28 = false := by kernel_rfl
  have hf : Try.prog.underlying 28 = some (.struct (Try.prog.fieldsOf 28)) := by kernel_rfl
  rw [run_equalIn_agg w _ _ _ _ hf hp]
  clear hf hp
  go_simp
  by_cases h1 : a = a' <;> by_cases h2 : b = b' <;> by_cases h3 : c = c' <;> simp [h1, h2, h3, tidB]
theorem key_eq' (d : Nat) (a1 a2 a3 a4 a5 a6 b1 b2 b3 b4 b5 b6 : Int) (w : World) : (Op.equalIn (d + 5) KT (.agg #[.int .i64 a1, .int .i64 a2, .int .i64 a3, .int .i64 a4, .int .i64 a5, .int .i64 a6]) (.agg #[.int .i64 b1, .int .i64 b2, .int .i64 b3, .int .i64 b4, .int .i64 b5, .int .i64 b6])).run Try.prog w = .ok ((a1, a2, a3, a4, a5, a6) == (b1, b2, b3, b4, b5, b6)) w := by
  have hp : Try.prog.stoodInHeld KT = false := by kernel_rfl
  have hf : Try.prog.underlying KT = some (.struct (Try.prog.fieldsOf KT)) := by kernel_rfl
  rw [run_equalIn_agg w _ _ _ _ hf hp]
  clear hf hp
  have h0 := tid_eq' d a4 a5 a6 b4 b5 b6
  have he : ((a1, a2, a3, a4, a5, a6) == (b1, b2, b3, b4, b5, b6)) = (a1 == b1 && (a2 == b2 && (a3 == b3 && tidB a4 a5 a6 b4 b5 b6))) := rfl
  rw [he]
  clear he
  go_simp
  cases hq : tidB a4 a5 a6 b4 b5 b6 <;> by_cases h1 : a1 = b1 <;> by_cases h2 : a2 = b2 <;> by_cases h3 : a3 = b3 <;> simp [h1, h2, h3]
theorem key_eq (a1 a2 a3 a4 a5 a6 b1 b2 b3 b4 b5 b6 : Int) (w : World) : (Op.equalIn 10000 KT (.agg #[.int .i64 a1, .int .i64 a2, .int .i64 a3, .int .i64 a4, .int .i64 a5, .int .i64 a6]) (.agg #[.int .i64 b1, .int .i64 b2, .int .i64 b3, .int .i64 b4, .int .i64 b5, .int .i64 b6])).run Try.prog w = .ok ((a1, a2, a3, a4, a5, a6) == (b1, b2, b3, b4, b5, b6)) w := key_eq' 9995 a1 a2 a3 a4 a5 a6 b1 b2 b3 b4 b5 b6 w
theorem key_guard : Try.prog.eqGuardType Try.prog.depth KT = false := by kernel_rfl
/-- a block that holds a key. -/
def KB (w : World) (x : Nat) (k : Ky) : Prop := w.heap[x]? = some (.cells (encK k).toArray KT (0, 0))
theorem KB.below {w w' : World} {x : Nat} {k : Ky} (h : KB w x k) (hb : Below w.heap.size w w') : KB w' x k := keep_block (.of_below (S := []) hb) h (by simp)
theorem KB.keep {w w' : World} {S : List Nat} {x : Nat} {k : Ky} (h : KB w x k) (hk : Keep S w w') (hx : x ∉ S) : KB w' x k := keep_block hk h hx
theorem KB.cells {w : World} {x : Nat} {k : Ky} (h : KB w x k) : w.cell? ⟨x, 0, none⟩ = some (.int .i64 k.1) ∧ w.cell? ⟨x, 1, none⟩ = some (.int .i64 k.2.1) ∧ w.cell? ⟨x, 2, none⟩ = some (.int .i64 k.2.2.1) ∧ w.cell? ⟨x, 3, none⟩ = some (.int .i64 k.2.2.2.1) ∧ w.cell? ⟨x, 4, none⟩ = some (.int .i64 k.2.2.2.2.1) ∧ w.cell? ⟨x, 5, none⟩ = some (.int .i64 k.2.2.2.2.2) := by
  refine ⟨?_, ?_, ?_, ?_, ?_, ?_⟩
  · rw [cell_of_row w x 0 _ _ _ h]; rfl
  · rw [cell_of_row w x 1 _ _ _ h]; rfl
  · rw [cell_of_row w x 2 _ _ _ h]; rfl
  · rw [cell_of_row w x 3 _ _ _ h]; rfl
  · rw [cell_of_row w x 4 _ _ _ h]; rfl
  · rw [cell_of_row w x 5 _ _ _ h]; rfl
def isK (k : Ky) (t : Tm) : Bool := keyOf t == k
theorem find1 (x : Nat) (k : Ky) (t : Tm) (w : World) (hx : KB w x k) :
    Calls Try.prog 34 #[aggT t, .pointer (some ⟨x, 0, none⟩)] w fun e w' => e = .returned (.bool (isK k t)) ∧ Below w.heap.size w w' := by
  obtain ⟨a1, a2, a3, a4, a5, a6⟩ := k
  obtain ⟨b1, b2, b3, b4, b5, b6, b7⟩ := t
  obtain ⟨W, hW⟩ : ∃ W, Hid (w.alloc (.cells #[.int .i64 b1, .int .i64 b2, .int .i64 b3, .int .i64 b4, .int .i64 b5, .int .i64 b6, .int .i64 b7] TM) = W) := ⟨_, Lib.hid rfl⟩
  have hbl : Below w.heap.size w W := by rw [← hW.out]; exact below_alloc _ _
  have g2 : W.heap[w.heap.size]? = some (.cells #[.int .i64 b1, .int .i64 b2, .int .i64 b3, .int .i64 b4, .int .i64 b5, .int .i64 b6, .int .i64 b7] TM (0, 0)) := by rw [← hW.out]; exact heap_alloc_new _ _
  have c0 : W.cell? ⟨w.heap.size, 0, none⟩ = some (.int .i64 b1) := by rw [cell_of_row W _ 0 _ _ _ g2]; rfl
  have c1 : W.cell? ⟨w.heap.size, 1, none⟩ = some (.int .i64 b2) := by rw [cell_of_row W _ 1 _ _ _ g2]; rfl
  have c2 : W.cell? ⟨w.heap.size, 2, none⟩ = some (.int .i64 b3) := by rw [cell_of_row W _ 2 _ _ _ g2]; rfl
  have c3 : W.cell? ⟨w.heap.size, 3, none⟩ = some (.int .i64 b4) := by rw [cell_of_row W _ 3 _ _ _ g2]; rfl
  have c4 : W.cell? ⟨w.heap.size, 4, none⟩ = some (.int .i64 b5) := by rw [cell_of_row W _ 4 _ _ _ g2]; rfl
  have c5 : W.cell? ⟨w.heap.size, 5, none⟩ = some (.int .i64 b6) := by rw [cell_of_row W _ 5 _ _ _ g2]; rfl
  have c6 : W.cell? ⟨w.heap.size, 6, none⟩ = some (.int .i64 b7) := by rw [cell_of_row W _ 6 _ _ _ g2]; rfl
  obtain ⟨k0, k1, k2, k3, k4, k5⟩ := (hx.below hbl).cells
  dsimp only at k0 k1 k2 k3 k4 k5
  obtain ⟨q, hq⟩ : ∃ q, ((b1, b2, b3, b4, b5, b6) == (a1, a2, a3, a4, a5, a6)) = q := ⟨_, rfl⟩
  have he := key_eq b1 b2 b3 b4 b5 b6 a1 a2 a3 a4 a5 a6
  rw [hq] at he
  have hm := key_guard
  have HQ : Hid (isK (a1, a2, a3, a4, a5, a6) (b1, b2, b3, b4, b5, b6, b7) = q) := Lib.hid hq
  have HB := Lib.hid hbl
  rw [HQ.out]
  dsimp only [aggT]
  clear hx g2 hq hbl
  go_enter Try.func34, Try.ntmps34
  go_wp2_with (rw [hW.out])
  go_ret
  exact ⟨rfl, HB.out⟩
theorem bodied_find1 : Bodied Try.prog 34 := fun _ _ => by kernel_rfl
/-- a wheel's memory. -/
structure Wh (W : World) (b : Nat) (now : Int) (v : Value) (L : List Tm) : Prop where
  blk : W.heap[b]? = some (.cells #[.int .i64 now, v] WT (0, 0))
  own : W.ownsRow (b + 1) TM 7 v L.length (L.flatMap encT)
section
variable {w w' W : World} {b : Nat} {now : Int} {v : Value} {L : List Tm} {S : List Nat}
theorem Wh.lt (h : Wh w b now v L) : b < w.heap.size := (Array.getElem?_eq_some_iff.1 h.blk).1
theorem Wh.keep (h : Wh w b now v L) (hk : Keep S w w') (h1 : b ∉ S) (h2 : ∀ k, v.ownBlock = some k → k ∉ S) : Wh w' b now v L := ⟨keep_block hk h.blk h1, own_keep h.own hk h2⟩
theorem Wh.below (h : Wh w b now v L) (hk : Below w.heap.size w w') : Wh w' b now v L := h.keep (S := []) (.of_below hk) (by simp) (by simp)
theorem Wh.rd (h : Wh w b now v L) : ∃ A c, v = .slice A L.length c ∧ RdE w A L.length 7 (L.map encT) ∧ (∀ o, A = some o → b + 1 ≤ o.block) ∧ (A = none → L.length = 0 ∧ c = 0) := own_rdE h.own encT_len rfl
theorem Wh.cell (h : Wh w b now v L) : w.cell? ⟨b, 0, none⟩ = some (.int .i64 now) ∧ w.cell? ⟨b, 1, none⟩ = some v ∧ w.frozen? ⟨b, 0, none⟩ = false ∧ w.frozen? ⟨b, 1, none⟩ = false :=
  ⟨by rw [cell_of_row w b 0 _ _ _ h.blk]; rfl, by rw [cell_of_row w b 1 _ _ _ h.blk]; rfl, frozen_of_row w b 0 _ _ h.blk, frozen_of_row w b 1 _ _ h.blk⟩
theorem Wh.ne (h : Wh w b now v L) : ∀ k, v.ownBlock = some k → b + 1 ≤ k ∧ k < w.heap.size := fun k hk => own_lt h.own k hk
end
theorem find_any (b : Nat) (now : Int) (v : Value) (L : List Tm) (k : Ky) (w : World) (h : Wh w b now v L) :
    Calls Try.prog 24 #[.pointer (some ⟨b, 0, none⟩), aggK k] w fun e w' => e = .returned (.int .i64 (idx (isK k) L)) ∧ Below w.heap.size w w' := by
  have hmf : ∀ (fn : Fn) (first cap : Array Value) (w : World), (Instr.makeFunc fn first cap).run Try.prog w = .ok (.func fn first cap) w := fun _ _ _ _ => rfl
  obtain ⟨W, hW⟩ : ∃ W, Hid (w.alloc (.cells (encK k).toArray KT) = W) := ⟨_, Lib.hid rfl⟩
  have hb0 : Below w.heap.size w W := by rw [← hW.out]; exact below_alloc _ _
  have cl : KB W w.heap.size k := by rw [← hW.out]; exact heap_alloc_new _ _
  have told : ToldE Try.prog 34 #[.pointer (some ⟨w.heap.size, 0, none⟩)] (isK k) W L := fun x hx w1 hb => find1 w.heap.size k x w1 (cl.below hb)
  obtain ⟨A, cp, rfl, hr, _, _⟩ := (h.below hb0).rd
  have hv : ∀ o, (w.alloc o).cell? ⟨b, 1, none⟩ = some (.slice A L.length cp) := fun o => cell_below (below_alloc w o) h.cell.2.1
  have HC := Lib.hid (index_tm _ _ _ A L.length cp L W bodied_find1 hr told)
  have HB := Lib.hid hb0
  have hv' := hv (.cells (encK k).toArray KT)
  rw [hW.out] at hv'
  clear hr told h hb0 cl
  obtain ⟨q, hq⟩ : ∃ q, Hid (idx (isK k) L = q) := ⟨_, Lib.hid rfl⟩
  rw [hq.out] at HC ⊢
  obtain ⟨LL, hLL⟩ : ∃ LL, L.length = LL := ⟨_, rfl⟩
  rw [hLL] at HC hv hv'
  clear hq hLL
  obtain ⟨a1, a2, a3, a4, a5, a6⟩ := k
  dsimp only [encK, aggK] at hW ⊢
  clear hv
  go_enter Try.func24, Try.ntmps24
  go_wp2_with (rw [hW.out])
  refine HC.out.mono ?_
  rintro e w1 ⟨rfl, hb1⟩
  go_wp2
  go_ret
  exact ⟨rfl, below2 HB.out hb1⟩
end Go.Proofs.Ytbifmdepkbgnjaa.Wh

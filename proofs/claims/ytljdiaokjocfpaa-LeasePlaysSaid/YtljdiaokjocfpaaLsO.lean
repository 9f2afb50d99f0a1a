/- the document's One. -/
import Derived.Test.YtljdiaokjocfpaaLsL
import Derived.Test.YtljdiaokjocfpaaZ
namespace Go.Proofs.Ytljdiaokjocfpaa.Ls
open Go.RowKit Go.Proofs.Ytljdiaokjocfpaa.L Go.Proofs.Ytljdiaokjocfpaa.O Go.Proofs.Ytljdiaokjocfpaa.A Go.Proofs.Ytljdiaokjocfpaa.R Go.Proofs.Ytljdiaokjocfpaa.S Go.Proofs.Ytljdiaokjocfpaa.T
set_option linter.unusedVariables false
set_option linter.unusedSimpArgs false

/-- only block b, and what lies from B on, has changed. -/
structure Lo (B b : Nat) (u v : World) : Prop where
  os : v.os = u.os
  tape : v.tape = u.tape
  output : v.output = u.output
  size : u.heap.size ≤ v.heap.size
  block : ∀ k, k < B → k ≠ b → v.heap[k]? = u.heap[k]?
theorem Lo.refl (B b : Nat) (u : World) : Lo B b u u := ⟨rfl, rfl, rfl, Nat.le_refl _, fun _ _ _ => rfl⟩
theorem Lo.trans {B b : Nat} {u v w : World} (h : Lo B b u v) (k : Lo B b v w) : Lo B b u w :=
  ⟨k.os.trans h.os, k.tape.trans h.tape, k.output.trans h.output, Nat.le_trans h.size k.size, fun x hx hn => (k.block x hx hn).trans (h.block x hx hn)⟩
theorem _root_.Go.RowKit.Below.lo {B b : Nat} {u v : World} (h : Below B u v) : Lo B b u v := ⟨h.os, h.tape, h.output, h.size, fun k hk _ => h.block k hk⟩
theorem Lo.setCell (B b : Nat) (w : World) (j : Nat) (u : Value) : Lo B b w (w.setCell ⟨b, j, none⟩ u) :=
  ⟨rfl, rfl, rfl, by simp, fun k _ hk => heap_setCell_other w ⟨b, j, none⟩ k u hk⟩
theorem Lo.cell_eq {B b : Nat} {u v : World} (h : Lo B b u v) {p : Addr} {x : Value} (hp : u.cell? p = some x ∧ p.block < B ∧ p.block ≠ b) : v.cell? p = some x :=
  (World.cell?_of_block (w := u) (h.block p.block hp.2.1 hp.2.2)).trans hp.1
theorem Lo.below {B b b' : Nat} {u v : World} (h : Lo B b u v) (hb : b' ≤ b) (hB : b' ≤ B) : Below b' u v := ⟨h.os, h.tape, h.output, h.size, fun k hk => h.block k (by omega) (by omega)⟩
def SOk (B b : Nat) (o : Obj) (w : World) : Prop := B ≤ w.heap.size ∧ w.heap[b]? = some o ∧ b < B
theorem SOk.below {B b : Nat} {o : Obj} {w w1 : World} (h : SOk B b o w) (hb : Below w.heap.size w w1) : SOk B b o w1 :=
  ⟨Nat.le_trans h.1 hb.size, (hb.block b (Nat.lt_of_lt_of_le h.2.2 h.1)).trans h.2.1, h.2.2⟩
theorem SOk.grown {B b : Nat} {o : Obj} {w w1 : World} (h : SOk B b o w) {e : TypeId} {size n : Nat} {v : Value} {xs : List Value} (hg : w.grownBy w1 v.ownBlock) (ho : w.ownsRow B e size v n xs) : SOk B b o w1 :=
  ⟨Nat.le_trans h.1 hg.size, ((below_of_grown hg h.1 fun k hk => (own_lt ho k hk).1).block b h.2.2).trans h.2.1, h.2.2⟩
/-- cells that lie apart from block b, below B. -/
def LiesB (B b : Nat) (w : World) (A : Option Addr) (xs : List Value) : Prop := Lies w A xs ∧ (0 < xs.length → ∀ p, A = some p → p.block < B ∧ p.block ≠ b)
theorem LiesB.lo {B b : Nat} {u v : World} {A : Option Addr} {xs : List Value} (h : LiesB B b u A xs) (hl : Lo B b u v) : Lies v A xs := fun h0 => by
  obtain ⟨g, o, e, hc⟩ := h.1 h0
  obtain ⟨h1, h2⟩ := h.2 h0 _ e
  refine ⟨g, o, e, fun j hj => ?_⟩
  have hj' := hc j hj
  rw [List.getElem?_eq_getElem hj] at hj' ⊢
  exact hl.cell_eq ⟨hj', h1, h2⟩
theorem own_form {w : World} {B : Nat} {e : TypeId} {size n : Nat} {v : Value} {xs : List Value} (h : w.ownsRow B e size v n xs) : ∃ A c, v = .slice A n c := by
  rcases h.2 with ⟨h1, h0⟩ | ⟨g, cap, cur, h1, _⟩
  · exact ⟨none, 0, by rw [h1, h0]⟩
  · exact ⟨_, _, h1⟩
theorem encD_cells (ds : List Dh) : ∀ u ∈ encD ds, u.oneCell' = true := by
  intro u hu
  simp only [encD, List.mem_flatMap, Dh.enc] at hu
  obtain ⟨d, _, hd⟩ := hu
  simp only [List.mem_cons, List.not_mem_nil, or_false] at hd
  rcases hd with rfl | rfl | rfl | rfl | rfl <;> rfl
def getH (ds : List Dh) (i : Int) : Dh := ds.getD i.toNat ⟨0, 0, 0, 0, 0⟩
def foe (ds : List Dh) (a b c cell : Int) : Bool := decide (0 ≤ atD ds cell) && !tidB (getH ds (atD ds cell)).a (getH ds (atD ds cell)).b (getH ds (atD ds cell)).c a b c
def oneE (N : Nat) (ds : List Dh) (a b c cell : Int) : Int := if outB N cell then 1 else if foe ds a b c cell then 12 else 0
def pre (ds : List Dh) (cell : Int) : Nat := (ds.takeWhile fun d => decide (d.cell < cell)).length
def oneS (ds : List Dh) (a b c u cell : Int) : List Dh :=
  if 0 ≤ atD ds cell then (if (getH ds (atD ds cell)).u < u then ds.set (atD ds cell).toNat { getH ds (atD ds cell) with u := u } else ds)
  else ds.take (pre ds cell) ++ [⟨cell, a, b, c, u⟩] ++ ds.drop (pre ds cell)
theorem at_cases (ds : List Dh) (c : Int) : atD ds c = -1 ∨ ∃ k : Nat, k < ds.length ∧ atD ds c = k := by
  unfold atD
  induction ds with
  | nil => exact .inl rfl
  | cons d ds ih =>
    unfold idx
    by_cases h : isC c d = true
    · exact .inr ⟨0, by simp, by simp [h]⟩
    · rcases ih with ih | ⟨k, hk, ih⟩
      · left; simp [h, ih]
      · right
        refine ⟨k + 1, by simpa using hk, ?_⟩
        simp only [h, Bool.false_eq_true, if_false, ih]
        rw [if_neg (by omega)]
        rfl
set_option maxHeartbeats 4000000 in
set_option maxRecDepth 100000 in
theorem one_ask (w : World) (bw N : Nat) (A : Option Addr) (ca : Nat) (ds : List Dh) (ta tb tc u c : Int) (h : Doc w bw N A ca ds) (r : Int) (hr : oneE N ds ta tb tc c = r) :
    Calls Try.prog 37 #[.pointer (some ⟨bw, 0, none⟩), .agg #[.int .i64 ta, .int .i64 tb, .int .i64 tc], .int .i64 u, .int .i64 c, .bool false] w fun e w' => e = .returned (.int .i64 r) ∧ Below w.heap.size w w' := by
  obtain ⟨W, hW⟩ : ∃ W, Hid (w.alloc (.cells #[.int .i64 ta, .int .i64 tb, .int .i64 tc] 55) = W) := ⟨_, Lib.hid rfl⟩
  have hal : Below w.heap.size w W := by rw [← hW.out]; exact below_alloc _ _
  have hy : ∀ j, W.cell? ⟨w.heap.size, j, none⟩ = (#[Value.int .i64 ta, .int .i64 tb, .int .i64 tc] : Array Value)[j]? := by
    intro j
    rw [← hW.out]
    exact cell_alloc w #[.int .i64 ta, .int .i64 tb, .int .i64 tc] 55 j
  have y0 : W.cell? ⟨w.heap.size, 0, none⟩ = some (.int .i64 ta) := hy 0
  have y1 : W.cell? ⟨w.heap.size, 1, none⟩ = some (.int .i64 tb) := hy 1
  have y2 : W.cell? ⟨w.heap.size, 2, none⟩ = some (.int .i64 tc) := hy 2
  clear hy
  have hD := Lib.hid (h.below hal)
  have c0 := h.c0
  have hbl := h.lt
  have hln := h.len
  have hN := h.N16
  have hres := Lib.hid hr
  clear h hr
  by_cases h1 : c < 0
  · have hend : Hid (1 = r) := Lib.hid (by rw [← hres.out]; simp [oneE, outB, h1])
    have d1 : decide (c < 0) = true := by simpa using h1
    go_enter Try.func37, Try.ntmps37
    go_wp2
    go_ret
    exact ⟨reti hend.out, below_alloc _ _⟩
  · have d1 : decide (c < 0) = false := by simpa using h1
    by_cases h2 : (N : Int) ≤ c
    · have hend : Hid (1 = r) := Lib.hid (by rw [← hres.out]; simp [oneE, outB, h2])
      have d2 : decide (c ≥ (N : Int)) = true := by simpa using h2
      go_enter Try.func37, Try.ntmps37
      go_wp2
      go_ret
      exact ⟨reti hend.out, below_alloc _ _⟩
    · have d2 : decide (c ≥ (N : Int)) = false := by simpa using h2
      have hout : outB N c = false := by simp [outB]; omega
      have hres2 : Hid ((if foe ds ta tb tc c then (12 : Int) else 0) = r) := Lib.hid (by rw [← hres.out]; simp [oneE, hout])
      clear hres
      rcases at_cases ds c with ha | ⟨k, hk, ha⟩
      · have HA := Lib.hid (at_any W bw N A ca ds c hD.out (-1) ha)
        have hend : Hid (0 = r) := Lib.hid (by rw [← hres2.out]; simp [foe, ha])
        go_enter Try.func37, Try.ntmps37
        go_wp2_with fail
        rw [hW.out]
        refine HA.out.mono ?_
        rintro e w1 ⟨rfl, rfl⟩
        go_wp2
        go_quiet (fail)
        go_wp2
        go_ret
        exact ⟨reti hend.out, below2 hal (below_drewN _ _)⟩
      · have HA := Lib.hid (at_any W bw N A ca ds c hD.out k ha)
        obtain ⟨d, hd⟩ : ∃ d, Hid (ds[k] = d) := ⟨_, Lib.hid rfl⟩
        obtain ⟨g, rfl, hg1, hg2, e0, e1, e2, e3, e4⟩ := hD.out.row k hk d hd.out
        have hgh : getH ds (k : Int) = d := by simp [getH, hk, hd.out]
        have c1 := hD.out.c1
        obtain ⟨n, hn⟩ : ∃ n, Hid (ds.length = n) := ⟨_, Lib.hid rfl⟩
        rw [hn.out] at c1 hk hln
        have hfo : Hid ((if !tidB d.a d.b d.c ta tb tc then (12 : Int) else 0) = r) := Lib.hid (by rw [← hres2.out]; simp [foe, ha, hgh])
        clear hres2
        obtain ⟨dc, da, db, dd, du⟩ := d
        dsimp only at e0 e1 e2 e3 e4 hfo
        have hm := tid_guard
        have dk : decide ((k : Int) ≥ 0) = true := by simp
        cases htd : tidB da db dd ta tb tc with
        | true =>
          have hq1 : ∀ w, (Op.equalIn 10000 55 (.agg #[.int .i64 da, .int .i64 db, .int .i64 dd]) (.agg #[.int .i64 ta, .int .i64 tb, .int .i64 tc])).run Try.prog w = .ok true w := fun w => by rw [tid_eq, htd]
          have hend : Hid (0 = r) := Lib.hid (by rw [← hfo.out, htd]; rfl)
          go_enter Try.func37, Try.ntmps37
          go_wp2_with fail
          rw [hW.out]
          refine HA.out.mono ?_
          rintro e w1 ⟨rfl, rfl⟩
          go_wp2
          go_quiet (fail)
          go_wp2
          go_ret
          exact ⟨reti hend.out, below2 hal (below_drewN _ _)⟩
        | false =>
          have hq1 : ∀ w, (Op.equalIn 10000 55 (.agg #[.int .i64 da, .int .i64 db, .int .i64 dd]) (.agg #[.int .i64 ta, .int .i64 tb, .int .i64 tc])).run Try.prog w = .ok false w := fun w => by rw [tid_eq, htd]
          have hend : Hid (12 = r) := Lib.hid (by rw [← hfo.out, htd]; rfl)
          go_enter Try.func37, Try.ntmps37
          go_wp2_with fail
          rw [hW.out]
          refine HA.out.mono ?_
          rintro e w1 ⟨rfl, rfl⟩
          go_wp2
          go_quiet (fail)
          go_wp2
          go_ret
          exact ⟨reti hend.out, below2 hal (below_drewN _ _)⟩
end Go.Proofs.Ytljdiaokjocfpaa.Ls

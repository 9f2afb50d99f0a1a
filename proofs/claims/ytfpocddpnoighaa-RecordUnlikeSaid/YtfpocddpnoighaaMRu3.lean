/- append onto a row of the call's own, from whatever slice that can be read. -/
import Derived.ArgAppend
import Derived.Maps.AppendAt
import Derived.OwnWalk
import Derived.Test.YtfpocddpnoighaaMRu0
import Derived.Test.YtfpocddpnoighaaMRu2
namespace Go.Proofs.Ytfpocddpnoighaa.A
open Go.RowKit Go.Proofs.Ytfpocddpnoighaa.L Go.Proofs.Ytfpocddpnoighaa.R
set_option linter.unusedVariables false
set_option linter.unusedSimpArgs false

/-- the cells that lie at A. -/
def Lies (w : World) (A : Option Addr) (news : List Value) : Prop := 0 < news.length → ∃ b o, A = some ⟨b, o, none⟩ ∧ ∀ j, j < news.length → w.cell? ⟨b, o + j, none⟩ = news[j]?
theorem Rd.lies {w : World} {A : Option Addr} {n : Nat} {xs : List Value} (h : Rd w A n xs) : Lies w A xs := fun h0 => by
  obtain ⟨b, o, e, hc⟩ := h.2.2 (by have := h.1; omega)
  exact ⟨b, o, e, fun j hj => hc j (by have := h.1; omega)⟩
theorem Lies.below {w w1 : World} {A : Option Addr} {xs : List Value} (h : Lies w A xs) (hb : Below w.heap.size w w1) : Lies w1 A xs := fun h0 => by
  obtain ⟨b, o, e, hc⟩ := h h0
  refine ⟨b, o, e, fun j hj => ?_⟩
  have h1 := hc j hj
  rw [List.getElem?_eq_getElem hj] at h1 ⊢
  exact (hb.cell (World.block_lt_of_cell? w _ h1)).trans h1
theorem lies_block {w : World} {g : Nat} {cs : Array Value} {t : TypeId} {fr : Nat × Nat} (h : w.heap[g]? = some (.cells cs t fr)) : Lies w (some ⟨g, 0, none⟩) cs.toList := fun _ =>
  ⟨g, 0, rfl, fun j hj => by rw [Nat.zero_add, cell_of_row w g j cs t fr h, Array.getElem?_toList]⟩

section
variable {P : Program} (w : World)
theorem run_append_src (base : Nat) (t ty e : TypeId) (z : Value) (size bytes : Nat) (ht : P.underlying t = some (.slice e)) (hinfo : (P.info? e).map (fun i => (i.zero, i.size, i.bytes)) = some (some z, size, bytes)) (hzs : z.cells.size = size) (hsz : 0 < size)
    (v : Value) (n : Nat) (xs : List Value) (hown : w.ownsRow base e size v n xs) (A : Option Addr) (m c : Nat) (hA : A = none → m = 0 ∧ c = 0) (news : List Value) (hl : news.length = m * size) (hsrc : Lies w A news) (h1 : ∀ u ∈ news, u.oneCell' = true)
    (hbytes : (n + m) * bytes ≤ 140737488355328) (hb0 : 0 < bytes) (hbase : base ≤ w.heap.size) :
    ∃ v' w', (Builtin.append_ #[t, t] ty #[v, .slice A m c]).run P w = .ok v' w' ∧ w'.ownsRow base e size v' (n + m) (xs ++ news) ∧ w.grownBy w' v.ownBlock ∧ (v'.ownBlock = v.ownBlock ∨ v'.ownBlock = some w.heap.size) := by
  obtain ⟨i0, hi, hzz⟩ := Option.map_eq_some_iff.1 hinfo
  simp only [Prod.mk.injEq] at hzz
  obtain ⟨hz0, hz1, hz2⟩ := hzz
  have hlen : n + m ≤ maxLen := by
    have : n + m ≤ (n + m) * bytes := Nat.le_mul_of_pos_right _ hb0
    simp only [maxLen]; omega
  cases A with
  | none =>
    obtain ⟨rfl, rfl⟩ := hA rfl
    obtain rfl : news = [] := List.eq_nil_of_length_eq_zero (by simpa using hl)
    exact ⟨v, w, run_append_owned_none (P := P) w base t ty e i0 size ht hi v n xs hown, by simpa using hown, World.grownBy.refl w _, .inl rfl⟩
  | some ad =>
    have hcells : ∀ j u, news[j]? = some u → w.cell? (ad.add j) = some u := by
      intro j u hu
      have hj : j < news.length := (List.getElem?_eq_some_iff.1 hu).1
      obtain ⟨b, o, e1, hc⟩ := hsrc (by omega)
      cases e1
      have hadd : (⟨b, o, none⟩ : Addr).add j = ⟨b, o + j, none⟩ := by unfold Addr.add; split <;> simp_all
      rw [hadd, hc j hj, hu]
    obtain ⟨v', w', hr, h2, h3, _, h5⟩ := run_append_own_at (P := P) w base t ty e i0 z size bytes ht hi hz0 hz1 hz2 hzs hsz v n xs hown ad m c news hl hcells h1 hlen hbytes hbase
    exact ⟨v', w', hr, h2, h3, h5⟩
theorem wp_append_src {o : Oper} {a : Act} {K : Act → World → Prop} {Q : Exit → Act → World → Prop} (s x : Operand) (base : Nat) (t e : TypeId) (z : Value) (size bytes : Nat)
    (ho : o.op = .call { callee := .builtin .append, args := #[s, x], argTypes := #[t, t] }) (ht : P.underlying t = some (.slice e)) (hinfo : (P.info? e).map (fun i => (i.zero, i.size, i.bytes)) = some (some z, size, bytes)) (hzs : z.cells.size = size) (hsz : 0 < size) (hb0 : 0 < bytes)
    (v : Value) (n : Nat) (xs : List Value) (hs : a.eval s = v) (hown : w.ownsRow base e size v n xs) (A : Option Addr) (m c : Nat) (hx : a.eval x = .slice A m c) (hA : A = none → m = 0 ∧ c = 0) (news : List Value) (hl : news.length = m * size) (hsrc : Lies w A news) (h1 : ∀ u ∈ news, u.oneCell' = true)
    (hbytes : (n + m) * bytes ≤ 140737488355328) (hbase : base ≤ w.heap.size)
    (h : ∀ v' w', w'.ownsRow base e size v' (n + m) (xs ++ news) → w.grownBy w' v.ownBlock → (v'.ownBlock = v.ownBlock ∨ v'.ownBlock = some w.heap.size) → K (a.put o.dst v') w') : o.wp P a w K Q := by
  obtain ⟨v', w', hr, h2, h3, h5⟩ := run_append_src w base t o.type e z size bytes ht hinfo hzs hsz v n xs hown A m c hA news hl hsrc h1 hbytes hb0 hbase
  unfold Oper.wp execOp
  simp only [ho, resolve, invoke, builtin, Sem.run_bind, Sem.run_pure, Result.andThen_ok, List.map_toArray, List.map_cons, List.map_nil, hs, hx, hr]
  exact h v' w' h2 h3 h5
theorem wpList_append_src {ops : Array Oper} {rest : List Oper} {o : Oper} {a : Act} {Q : Exit → Act → World → Prop} (hgd : o.guard = none) (s x : Operand) (base : Nat) (t e : TypeId) (z : Value) (size bytes : Nat)
    (ho : o.op = .call { callee := .builtin .append, args := #[s, x], argTypes := #[t, t] }) (ht : P.underlying t = some (.slice e)) (hinfo : (P.info? e).map (fun i => (i.zero, i.size, i.bytes)) = some (some z, size, bytes)) (hzs : z.cells.size = size) (hsz : 0 < size) (hb0 : 0 < bytes)
    (v : Value) (n : Nat) (xs : List Value) (hs : a.eval s = v) (hown : w.ownsRow base e size v n xs) (A : Option Addr) (m c : Nat) (hx : a.eval x = .slice A m c) (hA : A = none → m = 0 ∧ c = 0) (news : List Value) (hl : news.length = m * size) (hsrc : Lies w A news) (h1 : ∀ u ∈ news, u.oneCell' = true)
    (hbytes : (n + m) * bytes ≤ 140737488355328) (hbase : base ≤ w.heap.size)
    (h : ∀ v' w', w'.ownsRow base e size v' (n + m) (xs ++ news) → w.grownBy w' v.ownBlock → (v'.ownBlock = v.ownBlock ∨ v'.ownBlock = some w.heap.size) → wpList P ops Q rest (a.put o.dst v') w') : wpList P ops Q (o :: rest) a w :=
  wpList_plain hgd fun K hK => wp_append_src w s x base t e z size bytes ho ht hinfo hzs hsz hb0 v n xs hs hown A m c hx hA news hl hsrc h1 hbytes hbase fun v' w' a1 a2 a3 => hK _ _ (h v' w' a1 a2 a3)
end

section
variable {P : Program} (w : World)
theorem own_base {w : World} {b b' : Nat} {e : TypeId} {size n : Nat} {v : Value} {xs : List Value} (h : w.ownsRow b e size v n xs) (hb : b' ≤ b) : w.ownsRow b' e size v n xs := by
  obtain ⟨hl, h⟩ := h
  rcases h with h | ⟨g, cap, cur, hv, hg, r⟩
  · exact ⟨hl, .inl h⟩
  · exact ⟨hl, .inr ⟨g, cap, cur, hv, by omega, r⟩⟩
theorem below_grown_none {w w1 : World} (hg : w.grownBy w1 none) : Below w.heap.size w w1 := ⟨hg.os, hg.tape, hg.output, hg.size, fun k hk => hg.block k hk (by simp)⟩
/-- onto a slice without capacity: nothing that was there is written. -/
theorem run_append_fresh (base : Nat) (t ty e : TypeId) (z : Value) (size bytes : Nat) (ht : P.underlying t = some (.slice e)) (hinfo : (P.info? e).map (fun i => (i.zero, i.size, i.bytes)) = some (some z, size, bytes)) (hzs : z.cells.size = size) (hsz : 0 < size)
    (A0 : Option Addr) (hown : w.ownsRow base e size (.slice A0 0 0) 0 []) (A : Option Addr) (m c : Nat) (hA : A = none → m = 0 ∧ c = 0) (news : List Value) (hl : news.length = m * size) (hsrc : Lies w A news) (h1 : ∀ u ∈ news, u.oneCell' = true)
    (hbytes : m * bytes ≤ 140737488355328) (hb0 : 0 < bytes) (hbase : base ≤ w.heap.size) :
    ∃ v' w', (Builtin.append_ #[t, t] ty #[.slice A0 0 0, .slice A m c]).run P w = .ok v' w' ∧ w'.ownsRow base e size v' m news ∧ Below w.heap.size w w' := by
  obtain ⟨i0, hi, hzz⟩ := Option.map_eq_some_iff.1 hinfo
  simp only [Prod.mk.injEq] at hzz
  obtain ⟨hz0, hz1, hz2⟩ := hzz
  cases A0 with
  | none =>
    obtain ⟨v', w', hr, h2, h3, _⟩ := run_append_src w base t ty e z size bytes ht hinfo hzs hsz (.slice none 0 0) 0 [] hown A m c hA news hl hsrc h1 (by simpa using hbytes) hb0 hbase
    exact ⟨v', w', hr, by simpa using h2, below_grown_none h3⟩
  | some a0 =>
    have hg : ∃ g, a0 = ⟨g, 0, none⟩ := by
      rcases hown.2 with ⟨h, _⟩ | ⟨g, cap, cur, h, _⟩
      · cases h
      · injection h with h; injection h with h; exact ⟨g, h⟩
    obtain ⟨g, rfl⟩ := hg
    rcases Nat.eq_zero_or_pos m with hm | hm
    · subst hm
      obtain rfl : news = [] := List.eq_nil_of_length_eq_zero (by simpa using hl)
      cases A with
      | none =>
        obtain ⟨_, rfl⟩ := hA rfl
        exact ⟨_, w, run_append_owned_none (P := P) w base t ty e i0 size ht hi _ 0 [] hown, hown, Below.refl _ _⟩
      | some ad =>
        have hr := run_append_room_cells (P := P) w t ty e i0 ht hi g 0 0 0 ad 0 c [] (by simp) (by simp) (by simp) (by simp) (by simp) (by simp)
        refine ⟨_, w, hr.trans ?_, hown, Below.refl _ _⟩
        simp [World.setCells]
    · cases A with
      | none => have := (hA rfl).1; omega
      | some ad =>
        have hcells : ∀ j u, news[j]? = some u → w.cell? (ad.add j) = some u := by
          intro j u hu
          have hj : j < news.length := (List.getElem?_eq_some_iff.1 hu).1
          obtain ⟨b, o, e1, hc⟩ := hsrc (by omega)
          cases e1
          have hadd : (⟨b, o, none⟩ : Addr).add j = ⟨b, o + j, none⟩ := by unfold Addr.add; split <;> simp_all
          rw [hadd, hc j hj, hu]
        have hlen : 0 + m ≤ maxLen := by
          have : m ≤ m * bytes := Nat.le_mul_of_pos_right _ hb0
          simp only [maxLen]; omega
        obtain ⟨v', w', hr, h2, h3⟩ := run_append_arg_grows (P := P) w t ty e i0 z size bytes ht hi hz0 hz1 hz2 hzs hsz ⟨g, 0, none⟩ 0 0 [] (by simp) (by simp) ad m c news hl hcells (by omega) hlen (by simpa using hbytes)
        exact ⟨v', w', hr, by simpa using own_base h2 hbase, below_grown_none h3⟩
theorem wp_append_fresh {o : Oper} {a : Act} {K : Act → World → Prop} {Q : Exit → Act → World → Prop} (s x : Operand) (base : Nat) (t e : TypeId) (z : Value) (size bytes : Nat)
    (ho : o.op = .call { callee := .builtin .append, args := #[s, x], argTypes := #[t, t] }) (ht : P.underlying t = some (.slice e)) (hinfo : (P.info? e).map (fun i => (i.zero, i.size, i.bytes)) = some (some z, size, bytes)) (hzs : z.cells.size = size) (hsz : 0 < size) (hb0 : 0 < bytes)
    (A0 : Option Addr) (hs : a.eval s = .slice A0 0 0) (hown : w.ownsRow base e size (.slice A0 0 0) 0 []) (A : Option Addr) (m c : Nat) (hx : a.eval x = .slice A m c) (hA : A = none → m = 0 ∧ c = 0) (news : List Value) (hl : news.length = m * size) (hsrc : Lies w A news) (h1 : ∀ u ∈ news, u.oneCell' = true)
    (hbytes : m * bytes ≤ 140737488355328) (hbase : base ≤ w.heap.size)
    (h : ∀ v' w', w'.ownsRow base e size v' m news → Below w.heap.size w w' → K (a.put o.dst v') w') : o.wp P a w K Q := by
  obtain ⟨v', w', hr, h2, h3⟩ := run_append_fresh w base t o.type e z size bytes ht hinfo hzs hsz A0 hown A m c hA news hl hsrc h1 hbytes hb0 hbase
  unfold Oper.wp execOp
  simp only [ho, resolve, invoke, builtin, Sem.run_bind, Sem.run_pure, Result.andThen_ok, List.map_toArray, List.map_cons, List.map_nil, hs, hx, hr]
  exact h v' w' h2 h3
end
section
variable {P : Program} (w : World) {ops : Array Oper}
theorem runs_append_fresh {o : Oper} {a : Act} {K : Act → World → Prop} (hw : Region.wanted o (yielded ops a.tmps) = true) (s x : Operand) (base : Nat) (t e : TypeId) (z : Value) (size bytes : Nat)
    (ho : o.op = .call { callee := .builtin .append, args := #[s, x], argTypes := #[t, t] }) (ht : P.underlying t = some (.slice e)) (hinfo : (P.info? e).map (fun i => (i.zero, i.size, i.bytes)) = some (some z, size, bytes)) (hzs : z.cells.size = size) (hsz : 0 < size) (hb0 : 0 < bytes)
    (A0 : Option Addr) (hs : a.eval s = .slice A0 0 0) (hown : w.ownsRow base e size (.slice A0 0 0) 0 []) (A : Option Addr) (m c : Nat) (hx : a.eval x = .slice A m c) (hA : A = none → m = 0 ∧ c = 0) (news : List Value) (hl : news.length = m * size) (hsrc : Lies w A news) (h1 : ∀ u ∈ news, u.oneCell' = true)
    (hbytes : m * bytes ≤ 140737488355328) (hbase : base ≤ w.heap.size)
    (h : ∀ v' w', w'.ownsRow base e size v' m news → Below w.heap.size w w' → K (a.put o.dst v') w') : Runs P ops o a w K :=
  .of_wp hw (wp_append_fresh w s x base t e z size bytes ho ht hinfo hzs hsz hb0 A0 hs hown A m c hx hA news hl hsrc h1 hbytes hbase h)
theorem runs_append_src {o : Oper} {a : Act} {K : Act → World → Prop} (hw : Region.wanted o (yielded ops a.tmps) = true) (s x : Operand) (base : Nat) (t e : TypeId) (z : Value) (size bytes : Nat)
    (ho : o.op = .call { callee := .builtin .append, args := #[s, x], argTypes := #[t, t] }) (ht : P.underlying t = some (.slice e)) (hinfo : (P.info? e).map (fun i => (i.zero, i.size, i.bytes)) = some (some z, size, bytes)) (hzs : z.cells.size = size) (hsz : 0 < size) (hb0 : 0 < bytes)
    (v : Value) (n : Nat) (xs : List Value) (hs : a.eval s = v) (hown : w.ownsRow base e size v n xs) (A : Option Addr) (m c : Nat) (hx : a.eval x = .slice A m c) (hA : A = none → m = 0 ∧ c = 0) (news : List Value) (hl : news.length = m * size) (hsrc : Lies w A news) (h1 : ∀ u ∈ news, u.oneCell' = true)
    (hbytes : (n + m) * bytes ≤ 140737488355328) (hbase : base ≤ w.heap.size)
    (h : ∀ v' w', w'.ownsRow base e size v' (n + m) (xs ++ news) → w.grownBy w' v.ownBlock → (v'.ownBlock = v.ownBlock ∨ v'.ownBlock = some w.heap.size) → K (a.put o.dst v') w') : Runs P ops o a w K :=
  .of_wp hw (wp_append_src w s x base t e z size bytes ho ht hinfo hzs hsz hb0 v n xs hs hown A m c hx hA news hl hsrc h1 hbytes hbase h)
end
/-- what is owned reads as a slice. -/
theorem own_rd {w : World} {base : Nat} {e : TypeId} {v : Value} {n : Nat} {xs : List Value} (h : w.ownsRow base e 1 v n xs) : ∃ A c, v = .slice A n c ∧ Rd w A n xs ∧ (A = none → n = 0 ∧ c = 0) := by
  obtain ⟨hl, h⟩ := h
  rcases h with ⟨rfl, rfl⟩ | ⟨g, cap, cur, rfl, hb, hg, hn, hm, hs, ht⟩
  · obtain rfl : xs = [] := List.eq_nil_of_length_eq_zero (by simpa using hl)
    exact ⟨none, 0, rfl, rd_nil _ _, fun _ => ⟨rfl, rfl⟩⟩
  · refine ⟨_, cap, rfl, ⟨by simpa using hl, by simp only [maxLen] at hm; omega, fun h0 => ⟨g, 0, rfl, fun j hj => ?_⟩⟩, fun h => by cases h⟩
    rw [Nat.zero_add, cell_of_row w g j cur e _ hg, ← ht, List.getElem?_take_of_lt (by omega), Array.getElem?_toList]
theorem own_lt {w : World} {base : Nat} {e : TypeId} {size n : Nat} {v : Value} {xs : List Value} (h : w.ownsRow base e size v n xs) (k : Nat) (hk : v.ownBlock = some k) : base ≤ k ∧ k < w.heap.size := h.lt k hk
theorem below_of_grown {w w1 : World} {row : Option Nat} {B : Nat} (hg : w.grownBy w1 row) (hB : B ≤ w.heap.size) (hr : ∀ k, row = some k → B ≤ k) : Below B w w1 := (Below.refl B w).grown hg hB hr
theorem below_first {w w1 : World} {o : Obj} {n c : Nat} (hg : (w.alloc o).grownBy w1 (Value.slice (some ⟨w.heap.size, 0, none⟩) n c).ownBlock) : Below w.heap.size w w1 :=
  ((Below.refl _ _).alloc (Nat.le_refl _) _).trans (below_of_grown hg (by simp) (fun k hk => by simp [Value.ownBlock] at hk; omega))
theorem below_next {B : Nat} {w w1 : World} {e : TypeId} {size n : Nat} {v : Value} {xs : List Value} (h : w.ownsRow B e size v n xs) (hB : B ≤ w.heap.size) (hg : w.grownBy w1 v.ownBlock) : Below B w w1 := below_of_grown hg hB fun k hk => (own_lt h k hk).1
theorem own_kept {w w1 : World} {base : Nat} {e : TypeId} {size n : Nat} {v : Value} {xs : List Value} (h : w.ownsRow base e size v n xs) (hb : Below w.heap.size w w1) : w1.ownsRow base e size v n xs :=
  h.kept (row := none) ⟨hb.os, hb.tape, hb.output, hb.size, fun k hk _ => hb.block k hk⟩ (by cases v.ownBlock <;> simp)
end Go.Proofs.Ytfpocddpnoighaa.A

/- whole structs in a region that draws; what is owned, where other blocks are written. -/
namespace Go.Proofs.Ytfpocddpnoighaa.S
open Go.RowKit Go.Proofs.Ytfpocddpnoighaa.L Go.Proofs.Ytfpocddpnoighaa.R Go.Proofs.Ytfpocddpnoighaa.A
set_option linter.unusedVariables false
set_option linter.unusedSimpArgs false

theorem keep_upd {g : Nat} {w w' : World} (h : Upd g w w') : Keep [g] w w' := ⟨h.os, h.tape, h.output, by rw [h.size]; exact Nat.le_refl _, fun k hk hn => h.block k (by simpa using hn)⟩
theorem keep_block {S : List Nat} {w w' : World} (h : Keep S w w') {k : Nat} {o : Obj} (hk : w.heap[k]? = some o) (hs : k ∉ S) : w'.heap[k]? = some o := (h.block k (Array.getElem?_eq_some_iff.1 hk).1 hs).trans hk
theorem own_keep {S : List Nat} {w w1 : World} {base : Nat} {e : TypeId} {size n : Nat} {v : Value} {xs : List Value} (h : w.ownsRow base e size v n xs) (hb : Keep S w w1) (hs : ∀ k, v.ownBlock = some k → k ∉ S) : w1.ownsRow base e size v n xs := by
  refine ⟨h.1, ?_⟩
  rcases h.2 with hn | ⟨g, cap, cur, rfl, hbg, hgg, rest⟩
  · exact .inl hn
  · exact .inr ⟨g, cap, cur, rfl, hbg, keep_block hb hgg (hs g rfl), rest⟩
/-- blocks from base on may be written. -/
theorem keep_grown {w w1 : World} {row : Option Nat} (hg : w.grownBy w1 row) (S : List Nat) (hr : ∀ k, row = some k → k < w.heap.size → k ∈ S) : Keep S w w1 :=
  ⟨hg.os, hg.tape, hg.output, hg.size, fun k hk hn => hg.block k hk fun h => hn (hr k h.symm hk)⟩

section
variable {P : Program} {ops : Array Oper}
theorem wp_load_blk {o : Oper} {a : Act} {w : World} {K : Act → World → Prop} {Q : Exit → Act → World → Prop} (ty : TypeId) (x : Operand) (ho : o.op = .load ty x)
    (g off n : Nat) (hx : a.eval x = .pointer (some ⟨g, off, none⟩)) (t : TypeId) (cs : Array Value) (fr : Nat × Nat) (d : TypeDesc) (hg : w.heap[g]? = some (.cells cs t fr))
    (hu : P.underlying ty = some d) (hd : isAggD d = true) (hi : (P.info? ty).map (·.size) = some n) (hn : off + n ≤ cs.size) (vs : Array Value) (hvs : cs.extract off (off + n) = vs)
    (h : K (a.put o.dst (.agg vs)) w) : o.wp P a w K Q := by
  subst hvs
  unfold Oper.wp execOp
  simp only [ho, hx, Instr.loadAt, Instr.sureAddr, Sem.run_bind, Sem.run_pure, Result.andThen_ok, run_load_blk w g off n ty t cs fr d hg hu hd hi hn]
  exact h
theorem wp_store_blk {o : Oper} {a : Act} {w : World} {K : Act → World → Prop} {Q : Exit → Act → World → Prop} (ty : TypeId) (x y : Operand) (ho : o.op = .store ty x y)
    (g off : Nat) (hx : a.eval x = .pointer (some ⟨g, off, none⟩)) (t : TypeId) (cs : Array Value) (v : Value) (hy : a.eval y = v) (hg : w.heap[g]? = some (.cells cs t (0, 0)))
    (hi : (P.info? ty).map (·.size) = some v.cells.size) (hn : off + v.cells.size ≤ cs.size) (h1 : ∀ u ∈ v.cells.toList, u.oneCell' = true)
    (cs' : Array Value) (hcs : (cs.toList.take off ++ v.cells.toList ++ cs.toList.drop (off + v.cells.size)).toArray = cs')
    (h : ∀ w', w'.heap[g]? = some (.cells cs' t (0, 0)) → Upd g w w' → K (a.put o.dst undef) w') : o.wp P a w K Q := by
  subst hcs
  replace h := h _ (setRow_heap w g _ _ _ _ hg) (Upd.setRow g w _)
  unfold Oper.wp execOp
  simp only [ho, hx, hy, Instr.storeAt, Instr.sureAddr, Sem.run_bind, Sem.run_pure, Result.andThen_ok, run_store_blk w g off ty t cs v hg hi hn h1]
  exact h
theorem runs_load_blk {o : Oper} {a : Act} {w : World} {K : Act → World → Prop} (hw : Region.wanted o (yielded ops a.tmps) = true) (ty : TypeId) (x : Operand) (ho : o.op = .load ty x)
    (g off n : Nat) (hx : a.eval x = .pointer (some ⟨g, off, none⟩)) (t : TypeId) (cs : Array Value) (fr : Nat × Nat) (d : TypeDesc) (hg : w.heap[g]? = some (.cells cs t fr))
    (hu : P.underlying ty = some d) (hd : isAggD d = true) (hi : (P.info? ty).map (·.size) = some n) (hn : off + n ≤ cs.size) (vs : Array Value) (hvs : cs.extract off (off + n) = vs)
    (h : K (a.put o.dst (.agg vs)) w) : Runs P ops o a w K := .of_wp hw (wp_load_blk ty x ho g off n hx t cs fr d hg hu hd hi hn vs hvs h)
theorem runs_store_blk {o : Oper} {a : Act} {w : World} {K : Act → World → Prop} (hw : Region.wanted o (yielded ops a.tmps) = true) (ty : TypeId) (x y : Operand) (ho : o.op = .store ty x y)
    (g off : Nat) (hx : a.eval x = .pointer (some ⟨g, off, none⟩)) (t : TypeId) (cs : Array Value) (v : Value) (hy : a.eval y = v) (hg : w.heap[g]? = some (.cells cs t (0, 0)))
    (hi : (P.info? ty).map (·.size) = some v.cells.size) (hn : off + v.cells.size ≤ cs.size) (h1 : ∀ u ∈ v.cells.toList, u.oneCell' = true)
    (cs' : Array Value) (hcs : (cs.toList.take off ++ v.cells.toList ++ cs.toList.drop (off + v.cells.size)).toArray = cs')
    (h : ∀ w', w'.heap[g]? = some (.cells cs' t (0, 0)) → Upd g w w' → K (a.put o.dst undef) w') : Runs P ops o a w K := .of_wp hw (wp_store_blk ty x y ho g off hx t cs v hy hg hi hn h1 cs' hcs h)
end
end Go.Proofs.Ytfpocddpnoighaa.S

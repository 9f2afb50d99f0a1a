/- LeasePlays: both tables side by side. -/
import Derived.Test.YtljdiaokjocfpaaLsY
import Derived.Test.YtljdiaokjocfpaaY
namespace Go.Proofs.Ytljdiaokjocfpaa.Ls
open Go.RowKit Go.Proofs.Ytljdiaokjocfpaa.L Go.Proofs.Ytljdiaokjocfpaa.O Go.Proofs.Ytljdiaokjocfpaa.A Go.Proofs.Ytljdiaokjocfpaa.R Go.Proofs.Ytljdiaokjocfpaa.S Go.Proofs.Ytljdiaokjocfpaa.T
set_option linter.unusedVariables false
set_option linter.unusedSimpArgs false

/-- both tables, and the operation's own block. -/
structure St (w1 W : World) (bb gg bw ob N : Nat) (T D : List Slt) (x : OpR) : Prop where
  lt : LT w1 W bb gg T
  lenT : T.length = N
  lenD : D.length = N
  doc : ∃ A ca, Doc W bw N A ca (toD D) ∧ ∀ p, A = some p → p.block ≠ ob
  op : W.heap[ob]? = some (.cells #[.int .i64 x.k, .int .i64 x.n, .int .i64 x.a, .int .i64 x.b, .int .i64 x.c, .slice x.L.A x.L.n x.L.c] 65 (0, 0))
  ord : gg < bw ∧ bb < bw ∧ bw < ob
theorem St.lto {w1 W : World} {bb gg bw ob N : Nat} {T D : List Slt} {x : OpR} (h : St w1 W bb gg bw ob N T D x) : ob < W.heap.size := (Array.getElem?_eq_some_iff.1 h.op).1
theorem St.below {w1 W W' : World} {bb gg bw ob N : Nat} {T D : List Slt} {x : OpR} (h : St w1 W bb gg bw ob N T D x) (hb : Below W.heap.size W W') : St w1 W' bb gg bw ob N T D x := by
  obtain ⟨A, ca, hd, hA⟩ := h.doc
  exact ⟨h.lt.below hb, h.lenT, h.lenD, ⟨A, ca, hd.below hb, hA⟩, (hb.block ob h.lto).trans h.op, h.ord⟩
theorem St.keepL {w1 W W' : World} {bb gg bw ob N : Nat} {T T' D : List Slt} {x : OpR} (h : St w1 W bb gg bw ob N T D x) (hk : Keep [gg] W W') (hl : LT w1 W' bb gg T') (hT : T'.length = N) : St w1 W' bb gg bw ob N T' D x := by
  obtain ⟨A, ca, hd, hA⟩ := h.doc
  obtain ⟨o1, o2, o3⟩ := h.ord
  exact ⟨hl, hT, h.lenD, ⟨A, ca, hd.keep hk o1, hA⟩, keep_block hk h.op (by simp; omega), h.ord⟩
theorem St.left {w1 W W' : World} {bb gg bw ob N : Nat} {T D D' : List Slt} {x : OpR} {A A' : Option Addr} {ca ca' : Nat} (h : St w1 W bb gg bw ob N T D x) (hd : Doc W bw N A ca (toD D)) (hA : ∀ p, A = some p → p.block ≠ ob) (hL : Left W bw A A' W') (hd' : Doc W' bw N A' ca' (toD D')) (hD : D'.length = N) : St w1 W' bb gg bw ob N T D' x := by
  obtain ⟨o1, o2, o3⟩ := h.ord
  have hlo := h.lto
  have hlw := h.lt.hg
  refine ⟨⟨h.lt.tab.belowB hL.low o2 o1, h.lt.low.trans (hL.low.mono (by omega)), h.lt.hg⟩, h.lenT, hD, ⟨A', ca', hd', fun p hp => ?_⟩, (hL.rest ob hlo (by omega) hA).trans h.op, h.ord⟩
  rcases hL.row p hp with h1 | h1
  · exact hA p h1
  · omega
theorem St.cells {w1 W : World} {bb gg bw ob N : Nat} {T D : List Slt} {x : OpR} (h : St w1 W bb gg bw ob N T D x) : W.cell? ⟨ob, 0, none⟩ = some (.int .i64 x.k) ∧ W.cell? ⟨ob, 1, none⟩ = some (.int .i64 x.n) ∧ W.cell? ⟨ob, 2, none⟩ = some (.int .i64 x.a) ∧ W.cell? ⟨ob, 3, none⟩ = some (.int .i64 x.b) ∧ W.cell? ⟨ob, 4, none⟩ = some (.int .i64 x.c) ∧ W.cell? ⟨ob, 5, none⟩ = some (.slice x.L.A x.L.n x.L.c) := by
  refine ⟨?_, ?_, ?_, ?_, ?_, ?_⟩ <;> (rw [cell_of_row W ob _ _ _ _ h.op]; rfl)
/-- the operation's list lies in what came in. -/
structure OpIn (w1 : World) (gg : Nat) (x : OpR) : Prop where
  rd : Rd w1 x.L.A x.L.n (x.L.xs.map (Value.int .i64))
  low : 0 < x.L.n → ∀ o, x.L.A = some o → o.block < w1.heap.size
theorem st_hold_l {w1 W : World} {bb gg bw ob N : Nat} {T D : List Slt} {x : OpR} (h : St w1 W bb gg bw ob N T D x) (hx : OpIn w1 gg x) (E : Int) (F : List Slt) (hE : holdE T x.a x.b x.c x.L.xs = E) (hF : holdS T x.a x.b x.c x.n x.L.xs = F) :
    Calls Try.prog 29 #[.pointer (some ⟨bb, 0, none⟩), .agg #[.int .i64 x.a, .int .i64 x.b, .int .i64 x.c], .int .i64 x.n, .slice x.L.A x.L.n x.L.c] W fun e w' => e = .returned (.int .i64 E) ∧ St w1 w' bb gg bw ob N F D x := by
  have hg := h.lt.hg
  refine (lt_hold h.lt x.a x.b x.c x.n x.L.A x.L.n x.L.c x.L.xs (hx.rd.below h.lt.low) (fun h0 o e => by have := hx.low h0 o e; omega) E F hE hF).mono ?_
  rintro e w' ⟨he, hl, hk⟩
  exact ⟨he, h.keepL hk hl (by rw [← hF, holdS_len]; exact h.lenT)⟩
theorem st_hold_d {w1 W : World} {bb gg bw ob N : Nat} {T D : List Slt} {x : OpR} (h : St w1 W bb gg bw ob N T D x) (hx : OpIn w1 gg x) (E : Int) (F : List Slt) (hE : holdE D x.a x.b x.c x.L.xs = E) (hF : holdS D x.a x.b x.c x.n x.L.xs = F) :
    Calls Try.prog 34 #[.pointer (some ⟨bw, 0, none⟩), .agg #[.int .i64 x.a, .int .i64 x.b, .int .i64 x.c], .int .i64 x.n, .slice x.L.A x.L.n x.L.c] W fun e w' => e = .returned (.int .i64 E) ∧ St w1 w' bb gg bw ob N T F x := by
  obtain ⟨A, ca, hd, hA⟩ := h.doc
  have hg := h.lt.hg
  obtain ⟨o1, o2, o3⟩ := h.ord
  refine (doc_hold W bw N A ca D x.a x.b x.c x.n x.L.A x.L.n x.L.c x.L.xs hd h.lenD (hx.rd.below h.lt.low) (fun h0 o e => by have := hx.low h0 o e; omega) E F hE hF).mono ?_
  rintro e w' ⟨he, A', ca', hd', hL⟩
  exact ⟨he, h.left hd hA hL hd' (by rw [← hF, holdS_len]; exact h.lenD)⟩
def ListPost2 (w0 w : World) (b g : Nat) (l : List Nat) (ss : List Slt) (e : Ending) (w' : World) : Prop :=
  ∃ A c, e = .returned (.slice A l.length c) ∧ Rd w' A l.length (intsV l) ∧ (∀ p, A = some p → w.heap.size ≤ p.block) ∧ LT w0 w' b g ss ∧ Keep [g] w w'
theorem list_post2 {w0 w w' : World} {b g : Nat} {q : Slt → Bool} {ss : List Slt} {e : Ending} (h : LT w0 w b g ss) (hp : DropPost w b g q ss e w') : ListPost2 w0 w b g (dropL q ss ss.length) (dropS q ss) e w' := by
  obtain ⟨v, rfl, ho, ht, hk⟩ := hp
  obtain ⟨A, c, rfl, hr, _⟩ := own_rd ho
  exact ⟨A, c, rfl, hr, own_ge ho, h.keep ht hk, hk⟩
theorem lt_expire2 {w0 w : World} {b g : Nat} {ss : List Slt} (h : LT w0 w b g ss) (now : Int) (l : List Nat) (F : List Slt) (hl : dropL (fun s => decide (s.u ≤ now)) ss ss.length = l) (hF : dropS (fun s => decide (s.u ≤ now)) ss = F) :
    Calls Try.prog 30 #[.pointer (some ⟨b, 0, none⟩), .int .i64 now] w (ListPost2 w0 w b g l F) := by
  subst hl; subst hF
  have hmf : ∀ (fn : Fn) (first cap : Array Value) (w : World), (Instr.makeFunc fn first cap).run Try.prog w = .ok (.func fn first cap) w := fun _ _ _ _ => rfl
  have hgl := h.tab.lt.2
  have hW := h.below (below_alloc w (.cells #[.int .i64 now] 3))
  have told : ToldH Try.prog 45 #[.pointer (some ⟨w.heap.size, 0, none⟩)] (fun s => decide (s.u ≤ now)) g (w.alloc (.cells #[.int .i64 now] 3)) := fun s w1 hk =>
    exp1 w.heap.size s.a s.b s.c s.u now w1 (keep_cell hk (cell_alloc w _ _ 0) (by simp; omega))
  have HC := Lib.hid (drop_any b g ss _ _ _ _ hW.tab bodied_exp1 told)
  have HW := Lib.hid hW
  clear h hW told hgl
  go_enter Try.func30, Try.ntmps30
  go_wp2_with fail
  refine HC.out.mono ?_
  rintro e w1 hp
  obtain ⟨A, c, rfl, hr, hge, hL, hk⟩ := list_post2 HW.out hp
  clear hp HC
  go_wp2
  go_ret
  exact ⟨A, c, rfl, hr, fun p hp => by have := hge p hp; simp at this; omega, hL, (Keep.of_below (below_alloc _ _)).trans hk⟩
theorem lt_free2 {w0 w : World} {b g : Nat} {ss : List Slt} (h : LT w0 w b g ss) (ta tb tc : Int) (l : List Nat) (F : List Slt) (hl : dropL (fun s => tidB s.a s.b s.c ta tb tc) ss ss.length = l) (hF : dropS (fun s => tidB s.a s.b s.c ta tb tc) ss = F) :
    Calls Try.prog 33 #[.pointer (some ⟨b, 0, none⟩), .agg #[.int .i64 ta, .int .i64 tb, .int .i64 tc]] w (ListPost2 w0 w b g l F) := by
  subst hl; subst hF
  have hmf : ∀ (fn : Fn) (first cap : Array Value) (w : World), (Instr.makeFunc fn first cap).run Try.prog w = .ok (.func fn first cap) w := fun _ _ _ _ => rfl
  have hgl := h.tab.lt.2
  have hW := h.below (below_alloc w (.cells #[.int .i64 ta, .int .i64 tb, .int .i64 tc] 55))
  have told : ToldH Try.prog 46 #[.pointer (some ⟨w.heap.size, 0, none⟩)] (fun s => tidB s.a s.b s.c ta tb tc) g (w.alloc (.cells #[.int .i64 ta, .int .i64 tb, .int .i64 tc] 55)) := fun s w1 hk =>
    free1 w.heap.size s.a s.b s.c s.u ta tb tc w1 (keep_cell hk (cell_alloc w _ _ 0) (by simp; omega)) (keep_cell hk (cell_alloc w _ _ 1) (by simp; omega)) (keep_cell hk (cell_alloc w _ _ 2) (by simp; omega))
  have HC := Lib.hid (drop_any b g ss _ _ _ _ hW.tab bodied_free1 told)
  have HW := Lib.hid hW
  clear h hW told hgl
  go_enter Try.func33, Try.ntmps33
  go_wp2_with fail
  refine HC.out.mono ?_
  rintro e w1 hp
  obtain ⟨A, c, rfl, hr, hge, hL, hk⟩ := list_post2 HW.out hp
  clear hp HC
  go_wp2
  go_ret
  exact ⟨A, c, rfl, hr, fun p hp => by have := hge p hp; simp at this; omega, hL, (Keep.of_below (below_alloc _ _)).trans hk⟩
/-- a list that was given out, apart from both tables' blocks. -/
def Out (gg bw : Nat) (l : List Nat) (v : Value) (w : World) : Prop := ∃ A c, v = .slice A l.length c ∧ Rd w A l.length (intsV l) ∧ ∀ p, A = some p → p.block ≠ gg ∧ p.block ≠ bw
theorem Out.keep {gg bw : Nat} {l : List Nat} {v : Value} {w w' : World} (h : Out gg bw l v w) {S : List Nat} (hk : Keep S w w') (hS : ∀ x ∈ S, x = gg ∨ x = bw) : Out gg bw l v w' := by
  obtain ⟨A, c, e, hr, hne⟩ := h
  refine ⟨A, c, e, hr.keep hk fun b o he hm => ?_, hne⟩
  have := hne _ he
  rcases hS b hm with h1 | h1
  · exact this.1 h1
  · exact this.2 h1
theorem st_free_l {w1 W : World} {bb gg bw ob N : Nat} {T D : List Slt} {x : OpR} (h : St w1 W bb gg bw ob N T D x) (l : List Nat) (F : List Slt) (hl : dropL (fun s => tidB s.a s.b s.c x.a x.b x.c) T T.length = l) (hF : dropS (fun s => tidB s.a s.b s.c x.a x.b x.c) T = F) :
    Calls Try.prog 33 #[.pointer (some ⟨bb, 0, none⟩), .agg #[.int .i64 x.a, .int .i64 x.b, .int .i64 x.c]] W fun e w' => ∃ v, e = .returned v ∧ Out gg bw l v w' ∧ St w1 w' bb gg bw ob N F D x ∧ Keep [gg] W w' := by
  obtain ⟨o1, o2, o3⟩ := h.ord
  have hlo := h.lto
  refine (lt_free2 h.lt x.a x.b x.c l F hl hF).mono ?_
  rintro e w' ⟨A, c, he, hr, hge, hL, hk⟩
  exact ⟨_, he, ⟨A, c, rfl, hr, fun p hp => by have := hge p hp; omega⟩, h.keepL hk hL (by rw [← hF]; simp [dropS, h.lenT]), hk⟩
theorem st_exp_l {w1 W : World} {bb gg bw ob N : Nat} {T D : List Slt} {x : OpR} (h : St w1 W bb gg bw ob N T D x) (l : List Nat) (F : List Slt) (hl : dropL (fun s => decide (s.u ≤ x.n)) T T.length = l) (hF : dropS (fun s => decide (s.u ≤ x.n)) T = F) :
    Calls Try.prog 30 #[.pointer (some ⟨bb, 0, none⟩), .int .i64 x.n] W fun e w' => ∃ v, e = .returned v ∧ Out gg bw l v w' ∧ St w1 w' bb gg bw ob N F D x ∧ Keep [gg] W w' := by
  obtain ⟨o1, o2, o3⟩ := h.ord
  have hlo := h.lto
  refine (lt_expire2 h.lt x.n l F hl hF).mono ?_
  rintro e w' ⟨A, c, he, hr, hge, hL, hk⟩
  exact ⟨_, he, ⟨A, c, rfl, hr, fun p hp => by have := hge p hp; omega⟩, h.keepL hk hL (by rw [← hF]; simp [dropS, h.lenT]), hk⟩
theorem st_drop {w1 W w' : World} {bb gg bw ob N : Nat} {T D : List Slt} {x : OpR} (h : St w1 W bb gg bw ob N T D x) (q : Slt → Bool) (q' : Dh → Bool) (hqq : ∀ k s, q' (dhOf k s) = q s) (e : Ending) (hp : DropDoc W bw N q' (toD D) e w') :
    ∃ v, e = .returned v ∧ Out gg bw (dropL q D D.length) v w' ∧ St w1 w' bb gg bw ob N T (dropS q D) x ∧ Keep [bw] W w' := by
  obtain ⟨o1, o2, o3⟩ := h.ord
  have hlo := h.lto
  obtain ⟨A, ca, hd, hA⟩ := h.doc
  obtain ⟨Ar, cr, he, hr, hge, ⟨A', ca', hd', hA'⟩, hk⟩ := hp
  rw [outs_len q q' hqq, outs_D q q' hqq] at hr
  rw [outs_len q q' hqq] at he
  rw [left_D q q' hqq] at hd'
  exact ⟨_, he, ⟨Ar, cr, rfl, hr, fun p hp => by have := hge p hp; omega⟩, h.left hd hA ⟨fun p hp => .inr (hA' p hp), hk.below (Nat.le_of_lt hd.lt) (by simp), fun k hk1 hk2 _ => hk.block k hk1 (by simpa using hk2)⟩ hd' (by simp [dropS, h.lenD]), hk⟩
end Go.Proofs.Ytljdiaokjocfpaa.Ls

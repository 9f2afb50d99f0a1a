/- net: the laws' script; great; the state of a law's walk, with other blocks that stay. -/
import Derived.Test.YtbdcgfdchkbcnaaNeN
import Derived.Deep.DeepCutAuto
import Derived.Deep.CutBlock
namespace Go.Proofs.Ytbdcgfdchkbcnaa.Ne
open Go.RowKit Go.Proofs.Ytbdcgfdchkbcnaa.L Go.Proofs.Ytbdcgfdchkbcnaa.O Go.Proofs.Ytbdcgfdchkbcnaa.R Go.Proofs.Ytbdcgfdchkbcnaa.A Go.Proofs.Ytbdcgfdchkbcnaa.S Go.Proofs.Ytbdcgfdchkbcnaa.T Go.Proofs.Ytbdcgfdchkbcnaa.C Go.Proofs.Ytbdcgfdchkbcnaa.G Go.Proofs.Ytbdcgfdchkbcnaa.E
set_option linter.unusedVariables false
set_option linter.unusedSimpArgs false

def goodN2 (w : World) (o : OpN) : Prop := (-9223372036854775808 ≤ o.a ∧ o.a ≤ 9223372036854775807) ∧ (-9223372036854775808 ≤ o.b ∧ o.b ≤ 9223372036854775807) ∧ SlOk w 4 40 encP goodP o.L
set_option maxRecDepth 100000 in
theorem opens_opn2 (W : World) : Opens Try.prog W 39 encN (goodN2 W) :=
  Opens.as (opens_struct (w := W) Try.underlying39 (by kernel_rfl) (opens_fc (off' := 1) rfl (by kernel_rfl) (opens_int Try.underlying3) (opens_fc (off' := 2) rfl (by kernel_rfl) (opens_int Try.underlying3) (opens_fc (off' := 3) rfl (by kernel_rfl) (opens_int Try.underlying3)
      (opens_fc (off' := 4) rfl (by kernel_rfl) (opens_slice (sz := 4) (by_ := 40) (enc := encP) (good := goodP) Try.underlying22 (by kernel_rfl) (by omega) (by kernel_rfl) (opens_pkt W)) (opens_f0 4))))))
    encN (goodN2 W) (fun x => ⟨x.1, x.2.1, x.2.2.1, x.2.2.2.1⟩) (fun _ => rfl) (fun _ h => ⟨i64_range h.2.1, i64_range h.2.2.1, h.2.2.2.1⟩)
theorem opens_opns (W : World) : Opens Try.prog W 35 (fun s : Sl OpN => [.slice s.A s.n s.c]) (SlOk W 4 48 encN (goodN2 W)) :=
  opens_slice Try.underlying35 (by kernel_rfl) (by omega) (by kernel_rfl) (opens_opn2 W)
/-- the script: each operation, and its packets, are read. -/
structure NScript (w : World) (A : Option Addr) (n : Nat) (ops : List OpN) : Prop where
  rd : RdE w A n 4 (ops.map encN)
  ls : ∀ o ∈ ops, RdE w o.L.A o.L.n 4 (o.L.xs.map encP) ∧ (∀ p ∈ o.L.xs, goodP p) ∧ o.L.n ≤ 3518437208780 ∧ (0 < o.L.n → ∀ p, o.L.A = some p → p.block < w.heap.size) ∧ (Lit.int .i64 o.a).wf = true ∧ (Lit.int .i64 o.b).wf = true
theorem NScript.len {w : World} {A : Option Addr} {n : Nat} {ops : List OpN} (h : NScript w A n ops) : ops.length = n := by simpa using h.rd.1
theorem NScript.below {w w1 : World} {A : Option Addr} {n : Nat} {ops : List OpN} (h : NScript w A n ops) (hb : Below w.heap.size w w1) : NScript w1 A n ops :=
  ⟨h.rd.below hb, fun o ho => ⟨(h.ls o ho).1.below hb, (h.ls o ho).2.1, (h.ls o ho).2.2.1, fun h0 p hp => Nat.lt_of_lt_of_le ((h.ls o ho).2.2.2.1 h0 p hp) hb.size, (h.ls o ho).2.2.2.2⟩⟩
theorem nscript_of {w : World} {s : Sl OpN} (h : SlOk w 4 48 encN (goodN2 w) s) : NScript w s.A s.n s.xs :=
  ⟨rdE_of h, fun o ho => by
    obtain ⟨h1, h2, h3⟩ := (h.2.2.2.2.2.1 o ho).1
    have r1 := rdE_of h3
    exact ⟨r1, fun p hp => (h3.2.2.2.2.2.1 p hp).1, by have := h3.2.2.2.1; omega, fun h0 => r1.lt (by decide) h0, Go.Proofs.Ytbdcgfdchkbcnaa.Ne.i64_wf h1, Go.Proofs.Ytbdcgfdchkbcnaa.Ne.i64_wf h2⟩⟩
theorem NScript.at {w : World} {A : Option Addr} {n : Nat} {ops : List OpN} (h : NScript w A n ops) (k : Nat) (hk : k < n) (hl : k < ops.length) (o : OpN) (ho : ops[k] = o) :
    ∃ b f, A = some ⟨b, f, none⟩ ∧ w.cell? ⟨b, f + k * 4, none⟩ = some (.int .i64 o.k) ∧ w.cell? ⟨b, f + k * 4 + 1, none⟩ = some (.int .i64 o.a) ∧ w.cell? ⟨b, f + k * 4 + 2, none⟩ = some (.int .i64 o.b) ∧ w.cell? ⟨b, f + k * 4 + 3, none⟩ = some (.slice o.L.A o.L.n o.L.c) := by
  obtain ⟨b, f, hA, hl', hc⟩ := h.rd.at k hk
  subst ho
  exact ⟨b, f, hA, hc 0 (by decide), hc 1 (by decide), hc 2 (by decide), hc 3 (by decide)⟩
def opO (o : OpN) : Obj := .cells #[.int .i64 o.k, .int .i64 o.a, .int .i64 o.b, .slice o.L.A o.L.n o.L.c] 39 (0, 0)
theorem op_cells {W : World} {g : Nat} {o : OpN} (h : W.heap[g]? = some (opO o)) : W.cell? ⟨g, 0, none⟩ = some (.int .i64 o.k) ∧ W.cell? ⟨g, 1, none⟩ = some (.int .i64 o.a) ∧ W.cell? ⟨g, 2, none⟩ = some (.int .i64 o.b) ∧ W.cell? ⟨g, 3, none⟩ = some (.slice o.L.A o.L.n o.L.c) := by
  refine ⟨?_, ?_, ?_, ?_⟩ <;> (rw [cell_of_row W g _ _ _ _ h]; rfl)
/-- how many packets the operations have. -/
def sumN (ops : List OpN) : Nat := (ops.map fun o => o.L.n).sum
theorem sumN_take {ops : List OpN} (k : Nat) (hk : k < ops.length) : sumN (ops.take (k + 1)) = sumN (ops.take k) + ops[k].L.n := by
  unfold sumN
  rw [List.take_add_one, List.getElem?_eq_getElem hk, List.map_append, List.sum_append]
  simp
theorem sumN_le : ∀ (ops : List OpN) (k : Nat), sumN (ops.take k) ≤ sumN ops
  | [], k => by simp [sumN]
  | o :: r, 0 => by simp [sumN]
  | o :: r, k + 1 => by
    have := sumN_le r k
    simp only [sumN, List.take_succ_cons, List.map_cons, List.sum_cons] at this ⊢
    omega
def greatN (ops : List OpN) : Bool := decide (80 < ops.length) || decide (400 < sumN ops)
set_option maxHeartbeats 2000000 in
theorem great_many (A : Option Addr) (n c : Nat) (ops : List OpN) (w : World) (h : NScript w A n ops) : Calls Try.prog 20 #[.slice A n c] w fun e w' => e = .returned (.bool (greatN ops)) ∧ Below w.heap.size w w' := by
  have hn9 := h.rd.2.1
  have HL := Lib.hid h.len
  have HS := Lib.hid h
  obtain ⟨r, hr⟩ : ∃ r, Hid (greatN ops = r) := ⟨_, Lib.hid rfl⟩
  rw [hr.out]
  clear h
  by_cases hbig : 80 < n
  · have hd : decide ((80 : Int) < (n : Int)) = true := by simp; omega
    have er : Hid (r = true) := Lib.hid (by rw [← hr.out]; simp [greatN, HL.out, hbig])
    go_enter Try.func20, Try.ntmps20
    go_wp2
    go_ret
    exact ⟨retb er.out, Below.refl _ _⟩
  · have hd : decide ((80 : Int) < (n : Int)) = false := by simp; omega
    go_enter Try.func20, Try.ntmps20
    go_wp2
    clear hd
    go_loopw [3, 11] (fun u i wr => ∃ k s : Nat, k ≤ n ∧ i = .int .i64 k ∧ u = .int .i64 s ∧ s ≤ 400 ∧ Below w.heap.size w wr ∧ Hid (sumN (ops.take k) = s)) (fun _ i _ => n - (intOf i).toNat)
    case atStart => exact ⟨0, 0, by omega, rfl, rfl, by omega, Below.refl _ _, Lib.hid (by simp [sumN])⟩
    case round =>
      obtain ⟨k, s, hk, rfl, rfl, hs4, hb, hsum⟩ := hrel
      by_cases hlt : k < n
      · have hkl : k < ops.length := by have := HL.out; omega
        obtain ⟨o, ho⟩ : ∃ o, Hid (ops[k] = o) := ⟨_, Lib.hid rfl⟩
        obtain ⟨ab, f, hA, c0, c1, c2, c3⟩ := (HS.out.below hb).at k hlt hkl o ho.out
        subst hA
        have hln := (HS.out.ls o (by rw [← ho.out]; exact List.getElem_mem _)).2.2.1
        have hst : Hid (sumN (ops.take (k + 1)) = s + o.L.n) := Lib.hid (by rw [sumN_take k hkl, hsum.out, ho.out])
        have hin : Hid (400 < s + o.L.n → greatN ops = true) := Lib.hid fun ht => by
          have h1 := sumN_le ops (k + 1)
          rw [hst.out] at h1
          have : 400 < sumN ops := by omega
          simp [greatN, this]
        obtain ⟨ok, oc, ox, ⟨LA, Ln, Lc, Lxs⟩⟩ := o
        dsimp only at c0 c1 c2 c3 hst hin hln
        have hb2 := Lib.hid (below2 hb (below_alloc wr (.cells #[.int .i64 ok, .int .i64 oc, .int .i64 ox, .slice LA Ln Lc] 39)))
        by_cases h1 : 400 < s + Ln
        · have hd : decide ((400 : Int) < (s : Int) + (Ln : Int)) = true := by simp; omega
          have er : Hid (r = true) := Lib.hid (by rw [← hr.out]; exact hin.out h1)
          go_wp2
          go_ret
          exact ⟨retb er.out, hb2.out⟩
        · have hd : decide ((400 : Int) < (s : Int) + (Ln : Int)) = false := by simp; omega
          go_wp2
          go_roundw
          case rel => exact ⟨k + 1, s + Ln, by omega, by go_num, by simp, by omega, hb2.out, hst⟩
          case measure => simp [intOf]; omega
      · obtain rfl : k = n := by omega
        have er : Hid (r = false) := Lib.hid (by
          have h0 := hsum.out
          rw [List.take_of_length_le (by have := HL.out; omega)] at h0
          rw [← hr.out]
          simp only [greatN, h0, HL.out]
          simp; omega)
        go_wp2
        go_ret
        exact ⟨retbf er.out, hb⟩
/-- a net that was made in this call; the blocks pr are others, and hold what is said. -/
structure NP (w0 W : World) (pr : List (Nat × Obj)) (b mb nodes n : Nat) (f : Int → Int → Bool) (Ls : List Pkt) : Prop where
  nt : ∃ v, Nt W b mb nodes n f v (Ls.flatMap encP) Ls.length ∧ ∀ p ∈ pr, v.ownBlock ≠ some p.1
  base : w0.heap.size ≤ mb
  bel : Below w0.heap.size w0 W
  pr : ∀ p ∈ pr, W.heap[p.1]? = some p.2 ∧ p.1 ≠ b ∧ p.1 ≠ mb
section
variable {w0 W W' : World} {pr pr' : List (Nat × Obj)} {b mb nodes n : Nat} {f : Int → Int → Bool} {Ls Ls' : List Pkt}
theorem NP.sub (h : NP w0 W pr b mb nodes n f Ls) (hs : ∀ p ∈ pr', p ∈ pr) : NP w0 W pr' b mb nodes n f Ls := by
  obtain ⟨v, hv, hp⟩ := h.nt
  exact ⟨⟨v, hv, fun p hm => hp p (hs p hm)⟩, h.base, h.bel, fun p hm => h.pr p (hs p hm)⟩
theorem NP.below (h : NP w0 W pr b mb nodes n f Ls) (hb : Below W.heap.size W W') : NP w0 W' pr b mb nodes n f Ls := by
  obtain ⟨v, hv, hp⟩ := h.nt
  exact ⟨⟨v, hv.below hb, hp⟩, h.base, h.bel.trans (hb.mono h.bel.size), fun p hm => ⟨(hb.block _ (Array.getElem?_eq_some_iff.1 (h.pr p hm).1).1).trans (h.pr p hm).1, (h.pr p hm).2⟩⟩
theorem NP.lt (h : NP w0 W pr b mb nodes n f Ls) : b < W.heap.size := by obtain ⟨v, hv, _⟩ := h.nt; exact (Array.getElem?_eq_some_iff.1 hv.blk).1
theorem NP.mblt (h : NP w0 W pr b mb nodes n f Ls) : mb < b := by obtain ⟨v, hv, _⟩ := h.nt; exact hv.mb
theorem NP.goes {v v' : Value} (h : NP w0 W pr b mb nodes n f Ls) (hv : Nt W b mb nodes n f v (Ls.flatMap encP) Ls.length) (hp : ∀ p ∈ pr, v.ownBlock ≠ some p.1) (hn : Nt W' b mb nodes n f v' (Ls'.flatMap encP) Ls'.length) (hk : Keep (b :: v.ownBlock.toList) W W') (hr : v'.ownBlock = v.ownBlock ∨ ∀ k, v'.ownBlock = some k → W.heap.size ≤ k) : NP w0 W' pr b mb nodes n f Ls' := by
  have hmb := h.mblt
  have hba := h.base
  refine ⟨⟨v', hn, fun p hm hk' => ?_⟩, h.base, h.bel.trans (hk.below h.bel.size fun x hx => ?_), fun p hm => ⟨keep_block hk (h.pr p hm).1 fun hx => ?_, (h.pr p hm).2⟩⟩
  · rcases hr with e | e
    · rw [e] at hk'; exact hp p hm hk'
    · have := e _ hk'
      have := (Array.getElem?_eq_some_iff.1 (h.pr p hm).1).1
      omega
  · rcases List.mem_cons.1 hx with rfl | hx
    · omega
    · have := (own_lt hv.own x (by simpa using hx)).1
      omega
  · rcases List.mem_cons.1 hx with e | hx
    · exact (h.pr p hm).2.1 e
    · exact hp p hm (by simpa using hx)
/-- the map of the ways has changed. -/
theorem NP.ways {v : Value} {n' : Nat} {f' : Int → Int → Bool} (h : NP w0 W pr b mb nodes n f Ls) (hp : ∀ p ∈ pr, v.ownBlock ≠ some p.1) (hn : Nt W' b mb nodes n' f' v (Ls.flatMap encP) Ls.length) (hk : Keep [mb] W W') : NP w0 W' pr b mb nodes n' f' Ls :=
  ⟨⟨v, hn, hp⟩, h.base, h.bel.trans (hk.below h.bel.size fun x hx => by simp at hx; rw [hx]; exact h.base), fun p hm => ⟨keep_block hk (h.pr p hm).1 (by have := (h.pr p hm).2.2; simpa using this), (h.pr p hm).2⟩⟩
/-- new blocks stay from now on. -/
theorem NP.more (h : NP w0 W pr b mb nodes n f Ls) (hb : Below W.heap.size W W') (qr : List (Nat × Obj)) (hq : ∀ q ∈ qr, W'.heap[q.1]? = some q.2 ∧ W.heap.size ≤ q.1) : NP w0 W' (qr ++ pr) b mb nodes n f Ls := by
  have h' := h.below hb
  have hlt := h.lt
  have hmb := h.mblt
  obtain ⟨v, hv, hp⟩ := h.nt
  refine ⟨⟨v, hv.below hb, fun p hm => ?_⟩, h.base, h'.bel, fun p hm => ?_⟩
  · rcases List.mem_append.1 hm with hm | hm
    · intro hk
      have := (own_lt hv.own _ hk).2
      have := (hq p hm).2
      omega
    · exact hp p hm
  · rcases List.mem_append.1 hm with hm | hm
    · have := (hq p hm).2
      exact ⟨(hq p hm).1, by omega, by omega⟩
    · exact h'.pr p hm
theorem NP.alloc (h : NP w0 W pr b mb nodes n f Ls) (o : Obj) : NP w0 (W.alloc o) ((W.heap.size, o) :: pr) b mb nodes n f Ls :=
  h.more (below_alloc W o) [(W.heap.size, o)] (by intro q hq; simp at hq; subst hq; exact ⟨heap_alloc_new _ _, Nat.le_refl _⟩)
/-- one of the blocks that stay has changed. -/
theorem NP.turn {c : Nat} {M M' : Obj} (h : NP w0 W ((c, M) :: pr) b mb nodes n f Ls) (hk : Keep [c] W W') (hM : W'.heap[c]? = some M') (h0 : w0.heap.size ≤ c) (hc : ∀ p ∈ pr, p.1 ≠ c) : NP w0 W' ((c, M') :: pr) b mb nodes n f Ls := by
  obtain ⟨v, hv, hp⟩ := h.nt
  obtain ⟨h1, h2, h3⟩ := h.pr (c, M) (by simp)
  have hvc := hp (c, M) (by simp)
  dsimp only at h1 h2 h3 hvc
  refine ⟨⟨v, ⟨keep_block hk hv.blk (by simp; omega), own_keep hv.own hk (fun k hk' hm => ?_), hv.map.keep hk (by simp; omega), hv.mb⟩, fun p hm => ?_⟩, h.base, h.bel.trans (hk.below h.bel.size fun x hx => by simp at hx; omega), fun p hm => ?_⟩
  · simp at hm
    exact hvc (hm ▸ hk')
  · rcases List.mem_cons.1 hm with rfl | hm
    · exact hvc
    · exact hp p (by simp [hm])
  · rcases List.mem_cons.1 hm with rfl | hm
    · exact ⟨hM, h2, h3⟩
    · have := h.pr p (by simp [hm])
      exact ⟨keep_block hk this.1 (by have := hc p hm; simpa using this), this.2⟩
theorem np_new (w0 W : World) (hb : Below w0.heap.size w0 W) (nodes : Nat) (h1 : 0 < nodes) (h2 : nodes ≤ 16) :
    Calls Try.prog 16 #[.int .i64 nodes] W fun e w' => ∃ b mb, e = .returned (.tuple #[.pointer (some ⟨b, 0, none⟩), .int .i64 0]) ∧ NP w0 w' [] b mb nodes 0 (fun _ _ => false) [] ∧ W.heap.size ≤ mb ∧ Below W.heap.size W w' := by
  refine (net_new nodes W h1 h2).mono ?_
  rintro e w' ⟨rfl, hc, hb'⟩
  exact ⟨_, _, rfl, ⟨⟨_, hc, by simp⟩, hb.size, hb.trans (hb'.mono hb.size), by simp⟩, Nat.le_refl _, hb'⟩
/-- packets that lie in memory which was there ahead of the call. -/
theorem np_send (h : NP w0 W pr b mb nodes n f Ls) (hL : Ls.length ≤ 256) (A : Option Addr) (N c : Nat) (ps : List Pkt) (hr : RdE W A N 4 (ps.map encP)) (hgd : ∀ p ∈ ps, goodP p) (ho : 0 < N → ∀ o, A = some o → o.block < w0.heap.size) :
    Calls Try.prog 17 #[.pointer (some ⟨b, 0, none⟩), .slice A N c] W fun e w' => e = .returned (.int .i64 ((sendL nodes f ps Ls).2 : Int)) ∧ NP w0 w' pr b mb nodes n f (sendL nodes f ps Ls).1 ∧ (sendL nodes f ps Ls).1.length ≤ 256 := by
  obtain ⟨v, hv, hp⟩ := h.nt
  refine (send_any b mb nodes n f v Ls ps A N c W hv hL hr hgd fun hn o hA => ?_).mono ?_
  · have hw := hr.lt (by decide) hn o hA
    have := ho hn o hA
    have := h.base
    have := h.mblt
    refine ⟨hw, by omega, fun hk => ?_⟩
    have := (own_lt hv.own _ hk).1
    omega
  · rintro e w' ⟨rfl, v', hn, hl, hch⟩
    exact ⟨rfl, h.goes hv hp hn hch.keep hch.row, hl⟩
theorem np_take (h : NP w0 W pr b mb nodes n f Ls) (hL : Ls.length ≤ 256) (i : Nat) (hi : i < Ls.length) :
    Calls Try.prog 19 #[.pointer (some ⟨b, 0, none⟩), .int .i64 i] W fun e w' => e = .returned (.tuple #[pv Ls[i], .int .i64 0]) ∧ NP w0 w' pr b mb nodes n f (Ls.eraseIdx i) := by
  obtain ⟨v, hv, hp⟩ := h.nt
  refine (take_ok b mb nodes n f v Ls i W hv hi hL).mono ?_
  rintro e w' ⟨rfl, v', hn, hk, hr⟩
  rw [← List.length_eraseIdx_of_lt hi] at hn
  exact ⟨rfl, h.goes hv hp hn hk hr⟩
theorem np_take_no (h : NP w0 W pr b mb nodes n f Ls) (i : Int) (hi : ¬ (0 ≤ i ∧ i < Ls.length)) :
    Calls Try.prog 19 #[.pointer (some ⟨b, 0, none⟩), .int .i64 i] W fun e w' => e = .returned (.tuple #[.agg #[.int .i64 0, .int .i64 0, .string ⟨#[]⟩, .bool false], .int .i64 8]) ∧ NP w0 w' pr b mb nodes n f Ls := by
  obtain ⟨v, hv, hp⟩ := h.nt
  refine (take_no b nodes mb n f v _ _ i W hv hi).mono ?_
  rintro e w' ⟨rfl, hb⟩
  exact ⟨rfl, h.below hb⟩
theorem np_double (h : NP w0 W pr b mb nodes n f Ls) (i : Nat) (hi : i < Ls.length) (hk : Ls.length < 256) :
    Calls Try.prog 22 #[.pointer (some ⟨b, 0, none⟩), .int .i64 i] W fun e w' => e = .returned (.int .i64 0) ∧ NP w0 w' pr b mb nodes n f (Ls ++ [Ls[i]]) := by
  obtain ⟨v, hv, hp⟩ := h.nt
  refine (double_ok b mb nodes n f v Ls i W hv hi hk).mono ?_
  rintro e w' ⟨rfl, v', hn, hch⟩
  exact ⟨rfl, h.goes hv hp (by rw [List.length_append]; exact hn) hch.keep hch.row⟩
theorem np_double_no (h : NP w0 W pr b mb nodes n f Ls) (i : Int) (hi : ¬ (0 ≤ i ∧ i < Ls.length)) :
    Calls Try.prog 22 #[.pointer (some ⟨b, 0, none⟩), .int .i64 i] W fun e w' => e = .returned (.int .i64 8) ∧ W = w' := by
  obtain ⟨v, hv, hp⟩ := h.nt
  exact double_no b nodes mb n f v _ _ i W hv hi
theorem np_double_full (h : NP w0 W pr b mb nodes n f Ls) (i : Nat) (hi : i < Ls.length) (hk : 256 ≤ Ls.length) :
    Calls Try.prog 22 #[.pointer (some ⟨b, 0, none⟩), .int .i64 i] W fun e w' => e = .returned (.int .i64 6) ∧ W = w' := by
  obtain ⟨v, hv, hp⟩ := h.nt
  exact double_full b nodes mb n f v _ _ i W hv hi hk
theorem np_len (h : NP w0 W pr b mb nodes n f Ls) : Calls Try.prog 18 #[.pointer (some ⟨b, 0, none⟩)] W fun e w' => e = .returned (.int .i64 (Ls.length : Nat)) ∧ W = w' := by
  obtain ⟨v, hv, hp⟩ := h.nt
  exact len_any b nodes mb n f v _ _ W hv
theorem np_cut (h : NP w0 W pr b mb nodes n f Ls) (hn : n < 1000000) (x y : Int) (hx : (Lit.int .i64 x).wf = true) (hy : (Lit.int .i64 y).wf = true) :
    Calls Try.prog 23 #[.pointer (some ⟨b, 0, none⟩), .int .i64 x, .int .i64 y] W fun e w' => e = .returned (.int .i64 (if okW nodes x y then 0 else 1)) ∧ NP w0 w' pr b mb nodes (n + 1) (if okW nodes x y then upd f x y true else f) Ls := by
  obtain ⟨v, hv, hp⟩ := h.nt
  refine (cut_any b mb nodes n f v _ _ x y W hv hn hx hy).mono ?_
  rintro e w' ⟨rfl, hn', hk⟩
  exact ⟨rfl, h.ways hp hn' hk⟩
theorem np_heal (h : NP w0 W pr b mb nodes n f Ls) (hn : n < 1000000) (x y : Int) (hx : (Lit.int .i64 x).wf = true) (hy : (Lit.int .i64 y).wf = true) :
    Calls Try.prog 24 #[.pointer (some ⟨b, 0, none⟩), .int .i64 x, .int .i64 y] W fun e w' => e = .returned (.int .i64 (if okW nodes x y then 0 else 1)) ∧ NP w0 w' pr b mb nodes (n + 1) (if okW nodes x y then upd f x y false else f) Ls := by
  obtain ⟨v, hv, hp⟩ := h.nt
  refine (heal_any b mb nodes n f v _ _ x y W hv hn hx hy).mono ?_
  rintro e w' ⟨rfl, hn', hk⟩
  exact ⟨rfl, h.ways hp hn' hk⟩
/-- an owned row, by its block. -/
theorem own_obj {w : World} {base : Nat} {e : TypeId} {sz : Nat} {v : Value} {n : Nat} {xs : List Value} (h : w.ownsRow base e sz v n xs) : ∃ qr : List (Nat × Obj), (∀ q ∈ qr, w.heap[q.1]? = some q.2 ∧ base ≤ q.1) ∧ ∀ w' : World, (∀ q ∈ qr, w'.heap[q.1]? = some q.2) → w'.ownsRow base e sz v n xs := by
  obtain ⟨hl, h⟩ := h
  rcases h with ⟨rfl, rfl⟩ | ⟨g, cap, cur, rfl, hb, hg, rest⟩
  · exact ⟨[], by simp, fun w' _ => ⟨hl, .inl ⟨rfl, rfl⟩⟩⟩
  · exact ⟨[(g, .cells cur e (0, 0))], by intro q hq; simp at hq; subst hq; exact ⟨hg, hb⟩, fun w' hw => ⟨hl, .inr ⟨g, cap, cur, rfl, hb, hw (g, .cells cur e (0, 0)) (by simp), rest⟩⟩⟩
/-- all packets, in blocks qr that stay. -/
theorem np_all (h : NP w0 W pr b mb nodes n f Ls) (hL : Ls.length ≤ 256) :
    Calls Try.prog 21 #[.pointer (some ⟨b, 0, none⟩)] W fun e w' => ∃ A c qr, e = .returned (.slice A Ls.length c) ∧ NP w0 w' (qr ++ pr) b mb nodes n f Ls ∧ (∀ q ∈ qr, W.heap.size ≤ q.1) ∧ ∀ w2 : World, (∀ q ∈ qr, w2.heap[q.1]? = some q.2) → RdE w2 A Ls.length 4 (Ls.map encP) := by
  obtain ⟨v, hv, hp⟩ := h.nt
  refine (all_any b nodes mb n f v Ls W hv hL).mono ?_
  rintro e w' ⟨va, rfl, ho, hb⟩
  obtain ⟨A, c, hva, -, -, -⟩ := own_rdE ho encP_len rfl
  obtain ⟨qr, hq1, hq2⟩ := own_obj ho
  refine ⟨A, c, qr, by rw [hva], h.more hb qr hq1, fun q hq => (hq1 q hq).2, fun w2 hw2 => ?_⟩
  obtain ⟨A', c', hva', hr, -, -⟩ := own_rdE (hq2 w2 hw2) encP_len rfl
  rw [hva] at hva'
  injection hva' with e1 e2 e3
  rw [e1]
  exact hr
end
end Go.Proofs.Ytbdcgfdchkbcnaa.Ne

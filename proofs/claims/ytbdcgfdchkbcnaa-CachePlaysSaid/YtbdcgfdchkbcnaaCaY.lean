/- both caches side by side. -/
import Derived.Test.YtbdcgfdchkbcnaaCaX
namespace Go.Proofs.Ytbdcgfdchkbcnaa.Ca
open Go.RowKit Go.Proofs.Ytbdcgfdchkbcnaa.L Go.Proofs.Ytbdcgfdchkbcnaa.O Go.Proofs.Ytbdcgfdchkbcnaa.R Go.Proofs.Ytbdcgfdchkbcnaa.A Go.Proofs.Ytbdcgfdchkbcnaa.S Go.Proofs.Ytbdcgfdchkbcnaa.T Go.Proofs.Ytbdcgfdchkbcnaa.C Go.Proofs.Ytbdcgfdchkbcnaa.G Go.Proofs.Ytbdcgfdchkbcnaa.E Go.Proofs.Ytbdcgfdchkbcnaa.F
set_option linter.unusedVariables false
set_option linter.unusedSimpArgs false

structure Tw (w0 W : World) (pr : List (Nat × Obj)) (b b2 room : Nat) (L L2 : List Ent) : Prop where
  two : ∃ v v2, Ca CT ET W b room v L ∧ Ca DT DE W b2 room v2 L2 ∧ v.ownBlock ≠ some b2 ∧ v2.ownBlock ≠ some b ∧ (∀ k, v.ownBlock = some k → v2.ownBlock ≠ some k) ∧ ∀ p ∈ pr, v.ownBlock ≠ some p.1 ∧ v2.ownBlock ≠ some p.1
  ne : b ≠ b2
  base : w0.heap.size ≤ b ∧ w0.heap.size ≤ b2
  bel : Below w0.heap.size w0 W
  pr : ∀ p ∈ pr, W.heap[p.1]? = some p.2 ∧ p.1 ≠ b ∧ p.1 ≠ b2
section
variable {w0 W W' : World} {pr : List (Nat × Obj)} {b b2 room : Nat} {L L' L2 L2' : List Ent}
theorem Tw.sub {pr' : List (Nat × Obj)} (h : Tw w0 W pr b b2 room L L2) (hs : ∀ p ∈ pr', p ∈ pr) : Tw w0 W pr' b b2 room L L2 := by
  obtain ⟨v, v2, h1, h2, h3, h4, h5, h6⟩ := h.two
  exact ⟨⟨v, v2, h1, h2, h3, h4, h5, fun p hm => h6 p (hs p hm)⟩, h.ne, h.base, h.bel, fun p hm => h.pr p (hs p hm)⟩
theorem Tw.below (h : Tw w0 W pr b b2 room L L2) (hb : Below W.heap.size W W') : Tw w0 W' pr b b2 room L L2 := by
  obtain ⟨v, v2, h1, h2, h3, h4, h5, h6⟩ := h.two
  exact ⟨⟨v, v2, h1.below hb, h2.below hb, h3, h4, h5, h6⟩, h.ne, h.base, h.bel.trans (hb.mono h.bel.size), fun p hm => ⟨(hb.block _ (Array.getElem?_eq_some_iff.1 (h.pr p hm).1).1).trans (h.pr p hm).1, (h.pr p hm).2⟩⟩
theorem Tw.alloc (h : Tw w0 W pr b b2 room L L2) (o : Obj) : Tw w0 (W.alloc o) ((W.heap.size, o) :: pr) b b2 room L L2 := by
  have h' := h.below (below_alloc W o)
  obtain ⟨v, v2, h1, h2, h3, h4, h5, h6⟩ := h.two
  refine ⟨⟨v, v2, h1.below (below_alloc W o), h2.below (below_alloc W o), h3, h4, h5, fun p hm => ?_⟩, h.ne, h.base, h'.bel, fun p hm => ?_⟩
  · rcases List.mem_cons.1 hm with rfl | hm
    · exact ⟨fun hk => by have := (h1.ne _ hk).2; simp at this, fun hk => by have := (h2.ne _ hk).2; simp at this⟩
    · exact h6 p hm
  · rcases List.mem_cons.1 hm with rfl | hm
    · have := h1.lt
      have := h2.lt
      exact ⟨heap_alloc_new _ _, by show W.heap.size ≠ b; omega, by show W.heap.size ≠ b2; omega⟩
    · exact h'.pr p hm
/-- the program's cache goes on. -/
theorem Tw.c {f : FuncId} {args : Array Value} {Pe : Ending → Prop} (h : Tw w0 W pr b b2 room L L2) (F : ∀ v, Ca CT ET W b room v L → Calls Try.prog f args W fun e w' => Pe e ∧ Goes b room v L' W w') :
    Calls Try.prog f args W fun e w' => Pe e ∧ Tw w0 w' pr b b2 room L' L2 := by
  obtain ⟨v, v2, h1, h2, h3, h4, h5, h6⟩ := h.two
  refine (F v h1).mono ?_
  rintro e w' ⟨he, v', hc, hch⟩
  have hlt2 := h2.lt
  have hsz : ∀ k, v'.ownBlock = some k → (v.ownBlock = some k ∨ W.heap.size ≤ k) := fun k hk => by
    rcases hch.row with e | e
    · exact .inl (e ▸ hk)
    · exact .inr (e k hk)
  refine ⟨he, ⟨v', v2, hc, h2.apart (T' := CT) (E' := ET) hch h.ne.symm h3 h4 (fun k hk hv => h5 k hv hk), fun hk => ?_, h4, fun k hk hv2 => ?_, fun p hm => ⟨fun hk => ?_, (h6 p hm).2⟩⟩, h.ne, h.base, h.bel.trans (hch.keep.below h.bel.size fun x hx => ?_), fun p hm => ⟨keep_block hch.keep (h.pr p hm).1 fun hx => ?_, (h.pr p hm).2⟩⟩
  · rcases hsz _ hk with e | e
    · exact h3 e
    · omega
  · rcases hsz _ hk with e | e
    · exact h5 k e hv2
    · have := (h2.ne k hv2).2; omega
  · rcases hsz _ hk with e | e
    · exact (h6 p hm).1 e
    · have := (Array.getElem?_eq_some_iff.1 (h.pr p hm).1).1; omega
  · have hb := h.base.1
    rcases List.mem_cons.1 hx with rfl | hx
    · exact hb
    · have := (h1.ne x (by simpa using hx)).1
      omega
  · rcases List.mem_cons.1 hx with e | hx
    · exact (h.pr p hm).2.1 e
    · exact (h6 p hm).1 (by simpa using hx)
/-- the document's cache goes on. -/
theorem Tw.d {f : FuncId} {args : Array Value} {Pe : Ending → Prop} (h : Tw w0 W pr b b2 room L L2) (F : ∀ v, Ca DT DE W b2 room v L2 → Calls Try.prog f args W fun e w' => Pe e ∧ GoesD b2 room v L2' W w') :
    Calls Try.prog f args W fun e w' => Pe e ∧ Tw w0 w' pr b b2 room L L2' := by
  obtain ⟨v, v2, h1, h2, h3, h4, h5, h6⟩ := h.two
  refine (F v2 h2).mono ?_
  rintro e w' ⟨he, v', hc, hch⟩
  have hlt1 := h1.lt
  have hsz : ∀ k, v'.ownBlock = some k → (v2.ownBlock = some k ∨ W.heap.size ≤ k) := fun k hk => by
    rcases hch.row with e | e
    · exact .inl (e ▸ hk)
    · exact .inr (e k hk)
  refine ⟨he, ⟨v, v', h1.apart (T' := CT) (E' := ET) hch h.ne h4 h3 h5, hc, h3, fun hk => ?_, fun k hv hk => ?_, fun p hm => ⟨(h6 p hm).1, fun hk => ?_⟩⟩, h.ne, h.base, h.bel.trans (hch.keep.below h.bel.size fun x hx => ?_), fun p hm => ⟨keep_block hch.keep (h.pr p hm).1 fun hx => ?_, (h.pr p hm).2⟩⟩
  · rcases hsz _ hk with e | e
    · exact h4 e
    · omega
  · rcases hsz _ hk with e | e
    · exact h5 k hv e
    · have := (h1.ne k hv).2; omega
  · rcases hsz _ hk with e | e
    · exact (h6 p hm).2 e
    · have := (Array.getElem?_eq_some_iff.1 (h.pr p hm).1).1; omega
  · have hb := h.base.2
    rcases List.mem_cons.1 hx with rfl | hx
    · exact hb
    · have := (h2.ne x (by simpa using hx)).1
      omega
  · rcases List.mem_cons.1 hx with e | hx
    · exact (h.pr p hm).2.2 e
    · exact (h6 p hm).2 (by simpa using hx)
theorem tw_puts (h : Tw w0 W pr b b2 room L L2) (hL : L.length ≤ room) (h0 : 0 < room) (h1 : room ≤ 100000) (A : Option Addr) (n c : Nat) (es : List Ent) (hr : RdE W A n 4 (es.map encE)) (ho : 0 < n → ∀ o, A = some o → o.block < w0.heap.size) :
    Calls Try.prog 49 #[.pointer (some ⟨b, 0, none⟩), .slice A n c] W fun e w' => e = .returned (.int .i64 ((putsL room es L).2 : Int)) ∧ Tw w0 w' pr b b2 room (putsL room es L).1 L2 :=
  h.c fun v hv => puts_any b room v L A n c es W hv hL h0 h1 hr fun hn o hA => by
    have hw := hr.lt (by decide) hn o hA
    have := ho hn o hA
    have := h.base.1
    refine ⟨hw, by omega, fun hk => ?_⟩
    have := hv.ne _ hk
    omega
theorem tw_dput (h : Tw w0 W pr b b2 room L L2) (hL : L2.length ≤ room) (h0 : 0 < room) (h1 : room ≤ 10000) (e : Ent) :
    Calls Try.prog 56 #[.pointer (some ⟨b2, 0, none⟩), aggE e] W fun en w' => en = .returned (.bool (putL room e L2).2) ∧ Tw w0 w' pr b b2 room L (putL room e L2).1 :=
  h.d fun v hv => dput_any b2 room v L2 e W hv hL ⟨h0, h1⟩
theorem tw_get (h : Tw w0 W pr b b2 room L L2) (hL : L.length ≤ 10000) (c : Int) :
    Calls Try.prog 53 #[.pointer (some ⟨b, 0, none⟩), .int .i64 c] W fun e w' => e = .returned (.tuple #[aggE (peekL c L).1, .bool (peekL c L).2]) ∧ Tw w0 w' pr b b2 room (getL c L) L2 :=
  h.c fun v hv => get_any b room v L c W hv (by omega)
theorem tw_dget (h : Tw w0 W pr b b2 room L L2) (hL : L2.length ≤ 10000) (c : Int) :
    Calls Try.prog 57 #[.pointer (some ⟨b2, 0, none⟩), .int .i64 c] W fun e w' => e = .returned (.tuple #[aggE (peekL c L2).1, .bool (peekL c L2).2]) ∧ Tw w0 w' pr b b2 room L (getL c L2) :=
  h.d fun v hv => dget_any b2 room v L2 c W hv hL
theorem tw_peek (h : Tw w0 W pr b b2 room L L2) (hL : L.length ≤ 10000) (c : Int) :
    Calls Try.prog 50 #[.pointer (some ⟨b, 0, none⟩), .int .i64 c] W fun e w' => e = .returned (.tuple #[aggE (peekL c L).1, .bool (peekL c L).2]) ∧ Tw w0 w' pr b b2 room L L2 :=
  h.c fun v hv => (peek_any b room v L c W hv (by omega)).mono fun e w' ⟨he, hb⟩ => ⟨he, v, hv.below hb, Chg.of_below hb⟩
theorem tw_at (h : Tw w0 W pr b b2 room L L2) (hL : L2.length ≤ 10000) (c : Int) :
    Calls Try.prog 58 #[.pointer (some ⟨b2, 0, none⟩), .int .i64 c] W fun e w' => e = .returned (.int .i64 (fnd c L2)) ∧ W = w' := by
  obtain ⟨v, v2, h1, h2, _⟩ := h.two
  exact at_any b2 room v2 L2 c W h2 (by omega)
theorem tw_ddrop (h : Tw w0 W pr b b2 room L L2) (hL : L2.length ≤ 10000) (c : Int) :
    Calls Try.prog 59 #[.pointer (some ⟨b2, 0, none⟩), .int .i64 c] W fun e w' => e = .returned (.bool (ddropL c L2).2) ∧ Tw w0 w' pr b b2 room L (ddropL c L2).1 :=
  h.d fun v hv => ddrop_any b2 room v L2 c W hv (by omega)
theorem tw_stale (h : Tw w0 W pr b b2 room L L2) (hL : L.length ≤ 10000) (c x : Int) :
    Calls Try.prog 54 #[.pointer (some ⟨b, 0, none⟩), .int .i64 c, .int .i64 x] W fun e w' => e = .returned (.bool (staleL c x L).2) ∧ Tw w0 w' pr b b2 room (staleL c x L).1 L2 :=
  h.c fun v hv => stale_any b room v L c x W hv (by omega)
theorem tw_clear (h : Tw w0 W pr b b2 room L L2) :
    Calls Try.prog 60 #[.pointer (some ⟨b, 0, none⟩)] W fun e w' => e = .returned (.tuple #[]) ∧ Tw w0 w' pr b b2 room [] L2 :=
  h.c fun v hv => clear_any b room v L W hv
theorem tw_drop (h : Tw w0 W pr b b2 room L L2) (hL : L.length ≤ 10000) (A : Option Addr) (n c : Nat) (cs : List Int) (hr : Rd W A n (cs.map (Value.int .i64))) (ho : 0 < n → ∀ o, A = some o → o.block < w0.heap.size) :
    Calls Try.prog 55 #[.pointer (some ⟨b, 0, none⟩), .slice A n c] W fun e w' => e = .returned (.int .i64 ((L.length : Int) - (dropL cs L).length)) ∧ Tw w0 w' pr b b2 room (dropL cs L) L2 :=
  h.c fun v hv => drop_any b room v L A n c cs W hv (by omega) hr fun hn o hA hk => by
    have := ho hn o hA
    have := (hv.ne _ hk).1
    have := h.base.1
    omega
theorem tw_all (h : Tw w0 W pr b b2 room L L2) (hL : L.length ≤ 10000) :
    Calls Try.prog 51 #[.pointer (some ⟨b, 0, none⟩)] W fun e w' => ∃ A c, e = .returned (.slice A L.length c) ∧ RdE w' A L.length 4 (L.map encE) ∧ Below W.heap.size W w' := by
  obtain ⟨v, v2, h1, h2, _⟩ := h.two
  refine (all_any b room v L W h1 (by omega)).mono ?_
  rintro e w' ⟨u, rfl, ho, hb⟩
  obtain ⟨A, c, rfl, hr, hA, _⟩ := own_rdE ho encE_len rfl
  exact ⟨A, c, rfl, hr, hb⟩
theorem tw_row (h : Tw w0 W pr b b2 room L L2) : ∃ A c, W.cell? ⟨b2, 1, none⟩ = some (.slice A L2.length c) ∧ RdE W A L2.length 4 (L2.map encE) := by
  obtain ⟨v, v2, h1, h2, _⟩ := h.two
  obtain ⟨A, c, e, hr, _⟩ := h2.rd
  exact ⟨A, c, by rw [h2.cell.2.1, e], hr⟩
theorem tw_nil (h : Tw w0 W pr b b2 room L L2) : W.cell? ⟨b2, 1, none⟩ ≠ none ∧ W.frozen? ⟨b2, 1, none⟩ = false ∧ Tw w0 (W.setCell ⟨b2, 1, none⟩ (.slice none 0 0)) pr b b2 room L [] := by
  obtain ⟨v, v2, h1, h2, h3, h4, h5, h6⟩ := h.two
  have hk : Keep [b2] W (W.setCell ⟨b2, 1, none⟩ (.slice none 0 0)) := (Keep.refl _ _).setCell (p := ⟨b2, 1, none⟩) (.inl (by simp)) _
  refine ⟨by rw [h2.cell.2.1]; simp, h2.cell.2.2.2, ⟨v, .slice none 0 0, h1.keep hk (by simpa using h.ne) (fun k hv hm => h3 (by simp at hm; rw [hv, hm])), ⟨(Go.Proofs.Ytbdcgfdchkbcnaa.L.heap_setCell_at W b2 1 _ _ _ _ h2.blk).trans rfl, by simp, .inl ⟨rfl, rfl⟩⟩, h3, (by intro h; cases h), (fun k _ h => by cases h), fun p hm => ⟨(h6 p hm).1, by intro h; cases h⟩⟩, h.ne, h.base, h.bel.trans (hk.below h.bel.size (by intro x hx; simp at hx; subst hx; exact h.base.2)), fun p hm => ⟨keep_block hk (h.pr p hm).1 (by have := (h.pr p hm).2.2; simpa using this), (h.pr p hm).2⟩⟩
end
theorem plain_any (A : Option Addr) (n c : Nat) (L : List Ent) (w : World) (h : RdE w A n 4 (L.map encE)) (hsm : n ≤ 100000) : Calls Try.prog 62 #[.slice A n c] w fun e w' => ∃ A' c', e = .returned (.slice A' n c') ∧ RdE w' A' n 4 (L.map encE) ∧ Below w.heap.size w w' := by
  have hl : L.length = n := by have := h.1; simpa using this
  refine (plain_ents A n c L w h hsm).mono ?_
  rintro e w' ⟨v, rfl, ho, hb⟩
  obtain ⟨A', c', rfl, hr, _⟩ := own_rdE ho encE_len hl
  exact ⟨A', c', rfl, hr, hb⟩
/-- both, made anew. -/
theorem tw_start {w0 W : World} {b room : Nat} (h : CP w0 W [] b room []) : Tw w0 (W.alloc (.cells #[.int .i64 room, .slice none 0 0] DT)) [] b W.heap.size room [] [] := by
  obtain ⟨v, hv, _⟩ := h.ca
  have hb := below_alloc W (.cells #[.int .i64 room, .slice none 0 0] DT)
  have hlt := hv.lt
  refine ⟨⟨v, .slice none 0 0, hv.below hb, ⟨heap_alloc_new _ _, by simp, .inl ⟨rfl, rfl⟩⟩, fun hk => by have := (hv.ne _ hk).2; omega, (by intro h; cases h), (fun k _ h => by cases h), by simp⟩, by omega, ⟨h.base, h.bel.size⟩, h.bel.trans (hb.mono h.bel.size), by simp⟩
/-! ### the plain law -/
theorem puts_snoc2 (room : Nat) : ∀ (es : List Ent) (z : Ent) (L : List Ent), (putsL room (es ++ [z]) L).2 = (putsL room es L).2 + if (putL room z (putsL room es L).1).2 then 1 else 0
  | [], z, L => by
    show (if _ then 1 else 0) + 0 = 0 + _
    rw [Nat.add_zero, Nat.zero_add]
    rfl
  | e :: es, z, L => by
    have := puts_snoc2 room es z (putL room e L).1
    show _ + (putsL room (es ++ [z]) _).2 = _ + (putsL room es _).2 + _
    rw [this]
    exact (Nat.add_assoc _ _ _).symm
theorem puts_cnt (room : Nat) : ∀ (es L : List Ent), (putsL room es L).2 ≤ es.length
  | [], L => Nat.le_refl _
  | e :: es, L => by
    have := puts_cnt room es (putL room e L).1
    show (if _ then 1 else 0) + (putsL room es _).2 ≤ es.length + 1
    split <;> omega
theorem drop_snoc (cs : List Int) (x : Int) (L : List Ent) : dropL (cs ++ [x]) L = dropL [x] (dropL cs L) := by
  unfold dropL
  rw [List.filter_filter]
  refine List.filter_congr fun e _ => ?_
  rw [List.contains_eq_any_beq, List.contains_eq_any_beq, List.contains_eq_any_beq, List.any_append]
  cases cs.any fun y => e.1 == y <;> cases [x].any fun y => e.1 == y <;> rfl
theorem drop_nil0 (L : List Ent) : dropL [] L = L := by unfold dropL; rw [List.filter_eq_self]; intro a _; rfl
theorem ddrop_one {c : Int} {L : List Ent} (h : Uniq L) : (ddropL c L).1 = dropL [c] L ∧ (dropL [c] L).length + (if (ddropL c L).2 then 1 else 0) = L.length := by
  unfold ddropL
  cases hl : look c L with
  | none => simp [drop_none hl]
  | some i =>
    obtain ⟨hi, -, -⟩ := look_some hl
    simp only [drop_one h hl, List.length_eraseIdx, if_pos hi]
    exact ⟨trivial, by simp; omega⟩
end Go.Proofs.Ytbdcgfdchkbcnaa.Ca

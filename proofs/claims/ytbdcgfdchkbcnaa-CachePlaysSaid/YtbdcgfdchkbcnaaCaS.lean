/- cache: the state of a law's walk, with other blocks that stay; great. -/
import Derived.Test.YtbdcgfdchkbcnaaCaK
namespace Go.Proofs.Ytbdcgfdchkbcnaa.Ca
open Go.RowKit Go.Proofs.Ytbdcgfdchkbcnaa.L Go.Proofs.Ytbdcgfdchkbcnaa.O Go.Proofs.Ytbdcgfdchkbcnaa.R Go.Proofs.Ytbdcgfdchkbcnaa.A Go.Proofs.Ytbdcgfdchkbcnaa.S Go.Proofs.Ytbdcgfdchkbcnaa.T Go.Proofs.Ytbdcgfdchkbcnaa.C Go.Proofs.Ytbdcgfdchkbcnaa.G Go.Proofs.Ytbdcgfdchkbcnaa.E Go.Proofs.Ytbdcgfdchkbcnaa.F
set_option linter.unusedVariables false
set_option linter.unusedSimpArgs false

/-- a cache that was made in this call; the blocks pr are others, and hold what is said. -/
structure CP (w0 W : World) (pr : List (Nat × Obj)) (b room : Nat) (L : List Ent) : Prop where
  ca : ∃ v, Ca CT ET W b room v L ∧ ∀ p ∈ pr, v.ownBlock ≠ some p.1
  base : w0.heap.size ≤ b
  bel : Below w0.heap.size w0 W
  pr : ∀ p ∈ pr, W.heap[p.1]? = some p.2 ∧ p.1 ≠ b
theorem CP.sub {w0 W : World} {pr pr' : List (Nat × Obj)} {b room : Nat} {L : List Ent} (h : CP w0 W pr b room L) (hs : ∀ p ∈ pr', p ∈ pr) : CP w0 W pr' b room L := by
  obtain ⟨v, hv, hp⟩ := h.ca
  exact ⟨⟨v, hv, fun p hm => hp p (hs p hm)⟩, h.base, h.bel, fun p hm => h.pr p (hs p hm)⟩
theorem CP.goes {w0 W W' : World} {pr : List (Nat × Obj)} {b room : Nat} {L L' : List Ent} {v : Value} (h : CP w0 W pr b room L) (hv : Ca CT ET W b room v L) (hp : ∀ p ∈ pr, v.ownBlock ≠ some p.1) (hg : Goes b room v L' W W') : CP w0 W' pr b room L' := by
  obtain ⟨v', hc, hch⟩ := hg
  refine ⟨⟨v', hc, fun p hm hk => ?_⟩, h.base, h.bel.trans (hch.keep.below h.bel.size fun x hx => ?_), fun p hm => ⟨keep_block hch.keep (h.pr p hm).1 fun hx => ?_, (h.pr p hm).2⟩⟩
  · rcases hch.row with e | e
    · rw [e] at hk; exact hp p hm hk
    · have := e _ hk
      have := (Array.getElem?_eq_some_iff.1 (h.pr p hm).1).1
      omega
  · rcases List.mem_cons.1 hx with rfl | hx
    · exact h.base
    · have := (hv.ne x (by simpa using hx)).1
      have := h.base
      omega
  · rcases List.mem_cons.1 hx with e | hx
    · exact (h.pr p hm).2 e
    · exact hp p hm (by simpa using hx)
theorem CP.below {w0 W W' : World} {pr : List (Nat × Obj)} {b room : Nat} {L : List Ent} (h : CP w0 W pr b room L) (hb : Below W.heap.size W W') : CP w0 W' pr b room L := by
  obtain ⟨v, hv, hp⟩ := h.ca
  exact ⟨⟨v, hv.below hb, hp⟩, h.base, h.bel.trans (hb.mono h.bel.size), fun p hm => ⟨(hb.block _ (Array.getElem?_eq_some_iff.1 (h.pr p hm).1).1).trans (h.pr p hm).1, (h.pr p hm).2⟩⟩
theorem CP.lt {w0 W : World} {pr : List (Nat × Obj)} {b room : Nat} {L : List Ent} (h : CP w0 W pr b room L) : b < W.heap.size := by obtain ⟨v, hv, _⟩ := h.ca; exact hv.lt
/-- new blocks stay from now on. -/
theorem CP.more {w0 W W' : World} {pr : List (Nat × Obj)} {b room : Nat} {L : List Ent} (h : CP w0 W pr b room L) (hb : Below W.heap.size W W') (qr : List (Nat × Obj)) (hq : ∀ q ∈ qr, W'.heap[q.1]? = some q.2 ∧ W.heap.size ≤ q.1) : CP w0 W' (qr ++ pr) b room L := by
  have h' := h.below hb
  obtain ⟨v, hv, hp⟩ := h.ca
  refine ⟨⟨v, hv.below hb, fun p hm => ?_⟩, h.base, h'.bel, fun p hm => ?_⟩
  · rcases List.mem_append.1 hm with hm | hm
    · intro hk
      have := (hv.ne _ hk).2
      have := (hq p hm).2
      omega
    · exact hp p hm
  · rcases List.mem_append.1 hm with hm | hm
    · have := hv.lt
      have := (hq p hm).2
      exact ⟨(hq p hm).1, by omega⟩
    · exact h'.pr p hm
theorem CP.alloc {w0 W : World} {pr : List (Nat × Obj)} {b room : Nat} {L : List Ent} (h : CP w0 W pr b room L) (o : Obj) : CP w0 (W.alloc o) ((W.heap.size, o) :: pr) b room L :=
  h.more (below_alloc W o) [(W.heap.size, o)] (by intro q hq; simp at hq; subst hq; exact ⟨heap_alloc_new _ _, Nat.le_refl _⟩)
theorem cp_new (w0 W : World) (hb : Below w0.heap.size w0 W) (room : Nat) (h1 : 0 < room) (h2 : room ≤ 16) :
    Calls Try.prog 48 #[.int .i64 room] W fun e w' => ∃ b, e = .returned (.tuple #[.pointer (some ⟨b, 0, none⟩), .int .i64 0]) ∧ CP w0 w' [] b room [] ∧ W.heap.size ≤ b ∧ Below W.heap.size W w' := by
  refine (new_ok room W h1 h2).mono ?_
  rintro e w' ⟨rfl, hc, hlt, hb'⟩
  exact ⟨_, rfl, ⟨⟨_, hc, by simp⟩, hb.size, hb.trans (hb'.mono hb.size), by simp⟩, Nat.le_refl _, hb'⟩
/-- entries that lie in memory which was there ahead of the call. -/
theorem cp_puts {w0 W : World} {pr : List (Nat × Obj)} {b room : Nat} {L : List Ent} (h : CP w0 W pr b room L) (hL : L.length ≤ room) (h0 : 0 < room) (h1 : room ≤ 100000) (A : Option Addr) (n c : Nat) (es : List Ent) (hr : RdE W A n 4 (es.map encE)) (ho : 0 < n → ∀ o, A = some o → o.block < w0.heap.size) :
    Calls Try.prog 49 #[.pointer (some ⟨b, 0, none⟩), .slice A n c] W fun e w' => e = .returned (.int .i64 ((putsL room es L).2 : Int)) ∧ CP w0 w' pr b room (putsL room es L).1 := by
  obtain ⟨v, hv, hp⟩ := h.ca
  refine (puts_any b room v L A n c es W hv hL h0 h1 hr fun hn o hA => ?_).mono ?_
  · have hw := hr.lt (by decide) hn o hA
    have := ho hn o hA
    have := h.base
    refine ⟨hw, by omega, fun hk => ?_⟩
    have := hv.ne _ hk
    omega
  · rintro e w' ⟨rfl, hg⟩
    exact ⟨rfl, h.goes hv hp hg⟩
/-- one entry, in a new block. -/
theorem cp_put1 {w0 W : World} {pr : List (Nat × Obj)} {b room : Nat} {L : List Ent} (h : CP w0 W pr b room L) (hL : L.length ≤ room) (h0 : 0 < room) (h1 : room ≤ 100000) (z : Ent) {W1 : World} (h1' : W1 = W.alloc (.cells #[.int .i64 z.1, .int .i64 z.2.1, .int .i64 z.2.2.1, .int .i64 z.2.2.2] 77)) :
    Calls Try.prog 49 #[.pointer (some ⟨b, 0, none⟩), .slice (some ⟨W.heap.size, 0, none⟩) 1 1] W1 fun e w' => e = .returned (.int .i64 (if (putL room z L).2 then 1 else 0)) ∧ CP w0 w' pr b room (putL room z L).1 := by
  have hb : Below W.heap.size W W1 := by rw [h1']; exact below_alloc _ _
  have hr : RdE W1 (some ⟨W.heap.size, 0, none⟩) 1 4 ([z].map encE) := by
    refine ⟨rfl, by omega, by simp [encE], fun _ => ⟨_, _, rfl, fun i hi j hj => ?_⟩⟩
    obtain rfl : i = 0 := by omega
    rw [h1']
    simp only [Nat.zero_mul, Nat.zero_add]
    rw [cell_alloc]
    rcases (by omega : j = 0 ∨ j = 1 ∨ j = 2 ∨ j = 3) with rfl | rfl | rfl | rfl <;> rfl
  have hW := h.below hb
  obtain ⟨v, hv, hp⟩ := h.ca
  have hlt := hv.lt
  have hv1 := hv.below hb
  refine (puts_any b room v L _ 1 1 [z] W1 hv1 hL h0 h1 hr fun hn o hA => ?_).mono ?_
  · injection hA with hA
    subst hA
    refine ⟨by rw [h1', World.size_alloc]; exact Nat.lt_succ_self _, by show W.heap.size ≠ b; omega, fun hk => ?_⟩
    have := (hv.ne _ hk).2
    simp at this
  · rintro e w' ⟨rfl, hg⟩
    refine ⟨?_, hW.goes hv1 hp (by simpa [putsL] using hg)⟩
    simp only [putsL, Nat.add_zero]
    cases (putL room z L).2 <;> rfl
theorem cp_get {w0 W : World} {pr : List (Nat × Obj)} {b room : Nat} {L : List Ent} (h : CP w0 W pr b room L) (hL : L.length ≤ 100000) (c : Int) :
    Calls Try.prog 53 #[.pointer (some ⟨b, 0, none⟩), .int .i64 c] W fun e w' => e = .returned (.tuple #[aggE (peekL c L).1, .bool (peekL c L).2]) ∧ CP w0 w' pr b room (getL c L) := by
  obtain ⟨v, hv, hp⟩ := h.ca
  refine (get_any b room v L c W hv hL).mono ?_
  rintro e w' ⟨rfl, hg⟩
  exact ⟨rfl, h.goes hv hp hg⟩
theorem cp_peek {w0 W : World} {pr : List (Nat × Obj)} {b room : Nat} {L : List Ent} (h : CP w0 W pr b room L) (hL : L.length ≤ 100000) (c : Int) :
    Calls Try.prog 50 #[.pointer (some ⟨b, 0, none⟩), .int .i64 c] W fun e w' => e = .returned (.tuple #[aggE (peekL c L).1, .bool (peekL c L).2]) ∧ CP w0 w' pr b room L := by
  obtain ⟨v, hv, hp⟩ := h.ca
  refine (peek_any b room v L c W hv hL).mono ?_
  rintro e w' ⟨rfl, hb⟩
  exact ⟨rfl, h.below hb⟩
theorem cp_stale {w0 W : World} {pr : List (Nat × Obj)} {b room : Nat} {L : List Ent} (h : CP w0 W pr b room L) (hL : L.length ≤ 100000) (c x : Int) :
    Calls Try.prog 54 #[.pointer (some ⟨b, 0, none⟩), .int .i64 c, .int .i64 x] W fun e w' => e = .returned (.bool (staleL c x L).2) ∧ CP w0 w' pr b room (staleL c x L).1 := by
  obtain ⟨v, hv, hp⟩ := h.ca
  refine (stale_any b room v L c x W hv hL).mono ?_
  rintro e w' ⟨rfl, hg⟩
  exact ⟨rfl, h.goes hv hp hg⟩
theorem cp_clear {w0 W : World} {pr : List (Nat × Obj)} {b room : Nat} {L : List Ent} (h : CP w0 W pr b room L) :
    Calls Try.prog 60 #[.pointer (some ⟨b, 0, none⟩)] W fun e w' => e = .returned (.tuple #[]) ∧ CP w0 w' pr b room [] := by
  obtain ⟨v, hv, hp⟩ := h.ca
  refine (clear_any b room v L W hv).mono ?_
  rintro e w' ⟨rfl, hg⟩
  exact ⟨rfl, h.goes hv hp hg⟩
theorem cp_drop {w0 W : World} {pr : List (Nat × Obj)} {b room : Nat} {L : List Ent} (h : CP w0 W pr b room L) (hL : L.length ≤ 100000) (A : Option Addr) (n c : Nat) (cs : List Int) (hr : Rd W A n (cs.map (Value.int .i64))) (ho : 0 < n → ∀ o, A = some o → o.block < w0.heap.size) :
    Calls Try.prog 55 #[.pointer (some ⟨b, 0, none⟩), .slice A n c] W fun e w' => e = .returned (.int .i64 ((L.length : Int) - (dropL cs L).length)) ∧ CP w0 w' pr b room (dropL cs L) := by
  obtain ⟨v, hv, hp⟩ := h.ca
  refine (drop_any b room v L A n c cs W hv hL hr fun hn o hA hk => ?_).mono ?_
  · have := ho hn o hA
    have := (hv.ne _ hk).1
    have := h.base
    omega
  · rintro e w' ⟨rfl, hg⟩
    exact ⟨rfl, h.goes hv hp hg⟩
/-- an owned row, by its block. -/
theorem own_obj {w : World} {base : Nat} {e : TypeId} {sz : Nat} {v : Value} {n : Nat} {xs : List Value} (h : w.ownsRow base e sz v n xs) : ∃ qr : List (Nat × Obj), (∀ q ∈ qr, w.heap[q.1]? = some q.2 ∧ base ≤ q.1) ∧ ∀ w' : World, (∀ q ∈ qr, w'.heap[q.1]? = some q.2) → w'.ownsRow base e sz v n xs := by
  obtain ⟨hl, h⟩ := h
  rcases h with ⟨rfl, rfl⟩ | ⟨g, cap, cur, rfl, hb, hg, rest⟩
  · exact ⟨[], by simp, fun w' _ => ⟨hl, .inl ⟨rfl, rfl⟩⟩⟩
  · exact ⟨[(g, .cells cur e (0, 0))], by intro q hq; simp at hq; subst hq; exact ⟨hg, hb⟩, fun w' hw => ⟨hl, .inr ⟨g, cap, cur, rfl, hb, hw (g, .cells cur e (0, 0)) (by simp), rest⟩⟩⟩
/-- all entries, in blocks qr that stay. -/
theorem cp_all {w0 W : World} {pr : List (Nat × Obj)} {b room : Nat} {L : List Ent} (h : CP w0 W pr b room L) (hL : L.length ≤ 1000000) :
    Calls Try.prog 51 #[.pointer (some ⟨b, 0, none⟩)] W fun e w' => ∃ A c qr, e = .returned (.slice A L.length c) ∧ CP w0 w' (qr ++ pr) b room L ∧ ∀ w2 : World, (∀ q ∈ qr, w2.heap[q.1]? = some q.2) → RdE w2 A L.length 4 (L.map encE) := by
  obtain ⟨v, hv, hp⟩ := h.ca
  refine (all_any b room v L W hv hL).mono ?_
  rintro e w' ⟨u, rfl, ho, hb⟩
  obtain ⟨qr, h1, h2⟩ := own_obj ho
  obtain ⟨A, c, rfl⟩ := own_form4 ho
  refine ⟨A, c, qr, rfl, h.more hb qr h1, fun w2 hw => ?_⟩
  obtain ⟨A', c', hv', hr, _⟩ := own_rdE (h2 w2 hw) encE_len rfl
  cases hv'
  exact hr
/-- is it more than is played? -/
def greatB (ops : List OpR) : Bool := decide (150 < ops.length) || ops.any fun o => decide (40 < o.L.n) || decide (40 < o.C.n)
set_option maxHeartbeats 2000000 in
theorem great_any (A : Option Addr) (n c : Nat) (ops : List OpR) (w : World) (h : Script w A n ops) : Calls Try.prog 52 #[.slice A n c] w fun e w' => e = .returned (.bool (greatB ops)) ∧ Below w.heap.size w w' := by
  have hn9 := h.rd.2.1
  have HL := Lib.hid h.len
  have HS := Lib.hid h
  obtain ⟨r, hr⟩ : ∃ r, Hid (greatB ops = r) := ⟨_, Lib.hid rfl⟩
  rw [hr.out]
  clear h
  by_cases hbig : 150 < n
  · have hd : decide ((150 : Int) < (n : Int)) = true := by simp; omega
    have er : Hid (r = true) := Lib.hid (by rw [← hr.out]; simp [greatB, HL.out, hbig])
    go_enter Try.func52, Try.ntmps52
    go_wp2
    go_ret
    exact ⟨retb er.out, Below.refl _ _⟩
  · have hd : decide ((150 : Int) < (n : Int)) = false := by simp; omega
    go_enter Try.func52, Try.ntmps52
    go_wp2
    clear hd
    go_loopw [10] (fun i wr => ∃ k : Nat, k ≤ n ∧ i = .int .i64 k ∧ Below w.heap.size w wr ∧ Hid (((ops.take k).any fun o => decide (40 < o.L.n) || decide (40 < o.C.n)) = false)) (fun i _ => n - (intOf i).toNat)
    case atStart => exact ⟨0, by omega, rfl, Below.refl _ _, Lib.hid (by simp)⟩
    case round =>
      obtain ⟨k, hk, rfl, hb, hany⟩ := hrel
      by_cases hlt : k < n
      · have hkl : k < ops.length := by have := HL.out; omega
        obtain ⟨o, ho⟩ : ∃ o, Hid (ops[k] = o) := ⟨_, Lib.hid rfl⟩
        obtain ⟨ab, f, hA, c0, c1, c2, c3, c4⟩ := (HS.out.below hb).at k hlt hkl o ho.out
        subst hA
        have hst : Hid (((ops.take (k + 1)).any fun o => decide (40 < o.L.n) || decide (40 < o.C.n)) = (decide (40 < o.L.n) || decide (40 < o.C.n))) := Lib.hid (by
          rw [List.take_add_one, List.getElem?_eq_getElem hkl, ho.out, List.any_append, hany.out]
          simp)
        have hin : Hid ((decide (40 < o.L.n) || decide (40 < o.C.n)) = true → greatB ops = true) := Lib.hid fun ht => by
          have : (ops.any fun o => decide (40 < o.L.n) || decide (40 < o.C.n)) = true := List.any_eq_true.2 ⟨o, by rw [← ho.out]; exact List.getElem_mem _, ht⟩
          simp [greatB, this]
        obtain ⟨ok, oc, ox, ⟨LA, Ln, Lc, Lxs⟩, ⟨CA, Cn, Cc, Cxs⟩⟩ := o
        dsimp only at c0 c1 c2 c3 c4 hst hin
        by_cases h1 : 40 < Ln
        · have hd : decide ((40 : Int) < (Ln : Int)) = true := by simp; omega
          have er : Hid (r = true) := Lib.hid (by rw [← hr.out]; exact hin.out (by simp [h1]))
          have hb2 := Lib.hid (below2 hb (below_alloc wr (.cells #[.int .i64 ok, .int .i64 oc, .int .i64 ox, .slice LA Ln Lc, .slice CA Cn Cc] 86)))
          go_wp2
          go_ret
          exact ⟨retb er.out, hb2.out⟩
        · have hd : decide ((40 : Int) < (Ln : Int)) = false := by simp; omega
          have hb2 := Lib.hid (below2 hb (below_alloc wr (.cells #[.int .i64 ok, .int .i64 oc, .int .i64 ox, .slice LA Ln Lc, .slice CA Cn Cc] 86)))
          by_cases h2 : 40 < Cn
          · have hd2 : decide ((40 : Int) < (Cn : Int)) = true := by simp; omega
            have er : Hid (r = true) := Lib.hid (by rw [← hr.out]; exact hin.out (by simp [h2]))
            go_wp2
            go_ret
            exact ⟨retb er.out, hb2.out⟩
          · have hd2 : decide ((40 : Int) < (Cn : Int)) = false := by simp; omega
            go_wp2
            go_roundw
            case rel => exact ⟨k + 1, by omega, by go_num, hb2.out, Lib.hid (by rw [hst.out]; simp [h1, h2])⟩
            case measure => simp [intOf]; omega
      · obtain rfl : k = n := by omega
        have er : Hid (r = false) := Lib.hid (by
          have h0 := hany.out
          rw [List.take_of_length_le (by have := HL.out; omega)] at h0
          rw [← hr.out]
          simp only [greatB, h0, Bool.or_false, HL.out]
          simpa using hbig)
        go_wp2
        go_ret
        exact ⟨retbf er.out, hb⟩
end Go.Proofs.Ytbdcgfdchkbcnaa.Ca

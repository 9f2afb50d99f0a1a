/- net: the program's net and the document's, side by side. -/
import Derived.Test.YtbdcgfdchkbcnaaNeW
import Derived.Test.YtbdcgfdchkbcnaaNeX
namespace Go.Proofs.Ytbdcgfdchkbcnaa.Ne
open Go.RowKit Go.Proofs.Ytbdcgfdchkbcnaa.L Go.Proofs.Ytbdcgfdchkbcnaa.O Go.Proofs.Ytbdcgfdchkbcnaa.R Go.Proofs.Ytbdcgfdchkbcnaa.A Go.Proofs.Ytbdcgfdchkbcnaa.S Go.Proofs.Ytbdcgfdchkbcnaa.T Go.Proofs.Ytbdcgfdchkbcnaa.C Go.Proofs.Ytbdcgfdchkbcnaa.G Go.Proofs.Ytbdcgfdchkbcnaa.E
set_option linter.unusedVariables false
set_option linter.unusedSimpArgs false

structure TN (w0 W : World) (pr : List (Nat × Obj)) (b mb nodes n : Nat) (f : Int → Int → Bool) (Ls : List Pkt) (d : Nat) (Lt : List Pkt) (cs : List (Int × Int)) : Prop where
  two : ∃ v vL vC, Nt W b mb nodes n f v (Ls.flatMap encP) Ls.length ∧ Dd W d nodes vL Lt vC cs ∧ (∀ k, v.ownBlock = some k → k ≠ d ∧ vL.ownBlock ≠ some k ∧ vC.ownBlock ≠ some k) ∧ ∀ p ∈ pr, v.ownBlock ≠ some p.1
  ord : b < d
  base : w0.heap.size ≤ mb
  bel : Below w0.heap.size w0 W
  pr : ∀ p ∈ pr, W.heap[p.1]? = some p.2 ∧ p.1 ≠ b ∧ p.1 ≠ mb ∧ p.1 ≠ d
/-- blocks from B on stay. -/
def KB (B : Nat) (u v : World) : Prop := ∀ k, B ≤ k → k < u.heap.size → v.heap[k]? = u.heap[k]?
/-- the net's row is older than B. -/
def NetLo (B b : Nat) (W : World) : Prop := ∃ x y v, W.heap[b]? = some (.cells #[x, y, v] 106 (0, 0)) ∧ b < B ∧ ∀ k, v.ownBlock = some k → k < B
theorem NetLo.same {B b : Nat} {W W' : World} (h : NetLo B b W) (hb : W'.heap[b]? = W.heap[b]?) : NetLo B b W' := by
  obtain ⟨x, y, v, h1, h2⟩ := h
  exact ⟨x, y, v, hb.trans h1, h2⟩
theorem rdE_kb {W W' : World} {A : Option Addr} {n sz B : Nat} {L : List (List Value)} (h : RdE W A n sz L) (hk : KB B W W') (hsz : 0 < sz) (hB : 0 < n → ∀ o, A = some o → B ≤ o.block) : RdE W' A n sz L := by
  obtain ⟨h1, h2, h3, h4⟩ := h
  refine ⟨h1, h2, h3, fun hn => ?_⟩
  obtain ⟨b, o, hA, hc⟩ := h4 hn
  refine ⟨b, o, hA, fun i hi j hj => ?_⟩
  have h0 := hc i hi j hj
  have hx : i < L.length := by omega
  have hlen := (h3 _ (List.getElem_mem hx))
  rw [List.getElem?_eq_getElem hx] at h0 ⊢
  simp only [Option.bind_some] at h0 ⊢
  rw [List.getElem?_eq_getElem (by rw [hlen]; exact hj)] at h0 ⊢
  have hlt := World.block_lt_of_cell? W _ h0
  exact (World.cell?_of_block (w := W) (hk b (hB hn _ hA) hlt)).trans h0
def doubleL (Ls : List Pkt) (i : Int) : Int × List Pkt :=
  if h : 0 ≤ i ∧ i < Ls.length then (if Ls.length < 256 then (0, Ls ++ [Ls[i.toNat]'(by omega)]) else (6, Ls)) else (8, Ls)
def spoilL (Ls : List Pkt) (i x : Int) (y : Nat) : Int × List Pkt :=
  if h : 0 ≤ i ∧ i < Ls.length then
    (let p := Ls[i.toNat]'(by omega)
     if p.q then (9, Ls) else if x < 0 ∨ (p.s.size : Int) ≤ x ∨ y = 0 then (1, Ls) else (0, Ls.set i.toNat ⟨p.a, p.b, spB p.s x.toNat y, true⟩))
  else (8, Ls)
theorem doubleL_ok {Ls : List Pkt} {k : Nat} (hk : k < Ls.length) (hf : Ls.length < 256) : doubleL Ls k = (0, Ls ++ [Ls[k]]) := by
  unfold doubleL
  rw [dif_pos ⟨by omega, by omega⟩, if_pos hf]
  simp
theorem doubleL_full {Ls : List Pkt} {k : Nat} (hk : k < Ls.length) (hf : ¬ Ls.length < 256) : doubleL Ls k = (6, Ls) := by
  unfold doubleL
  rw [dif_pos ⟨by omega, by omega⟩, if_neg hf]
theorem doubleL_no {Ls : List Pkt} {i : Int} (hi : ¬ (0 ≤ i ∧ i < Ls.length)) : doubleL Ls i = (8, Ls) := by
  unfold doubleL
  rw [dif_neg hi]
theorem spoilL_at {Ls : List Pkt} {k : Nat} (hk : k < Ls.length) (x : Int) (y : Nat) : spoilL Ls k x y = if Ls[k].q then (9, Ls) else if x < 0 ∨ (Ls[k].s.size : Int) ≤ x ∨ y = 0 then (1, Ls) else (0, Ls.set k ⟨Ls[k].a, Ls[k].b, spB Ls[k].s x.toNat y, true⟩) := by
  unfold spoilL
  rw [dif_pos ⟨by omega, by omega⟩]
  simp
theorem spoilL_no {Ls : List Pkt} {i : Int} (hi : ¬ (0 ≤ i ∧ i < Ls.length)) (x : Int) (y : Nat) : spoilL Ls i x y = (8, Ls) := by
  unfold spoilL
  rw [dif_neg hi]
theorem spB_size (s : ByteArray) (k y : Nat) : (spB s k y).size = s.size := by
  show ((s.data.toList.set k _).toArray).size = _
  simp
theorem doubleL_len (Ls : List Pkt) (i : Int) (h : Ls.length ≤ 256) : (doubleL Ls i).2.length ≤ 256 := by
  unfold doubleL
  split
  · split
    · simp; omega
    · exact h
  · exact h
theorem doubleL_good (Ls : List Pkt) (i : Int) (h : ∀ y ∈ Ls, goodP y) : ∀ y ∈ (doubleL Ls i).2, goodP y := by
  intro y hy
  unfold doubleL at hy
  split at hy
  · split at hy
    · rcases List.mem_append.1 hy with hy | hy
      · exact h y hy
      · simp at hy; rw [hy]; exact h _ (List.getElem_mem _)
    · exact h y hy
  · exact h y hy
theorem spoilL_len (Ls : List Pkt) (i x : Int) (y : Nat) : (spoilL Ls i x y).2.length = Ls.length := by
  unfold spoilL
  split
  · dsimp only
    split
    · rfl
    · split
      · rfl
      · simp
  · rfl
theorem spoilL_good (Ls : List Pkt) (i x : Int) (y : Nat) (h : ∀ y ∈ Ls, goodP y) : ∀ p ∈ (spoilL Ls i x y).2, goodP p := by
  intro p hp
  unfold spoilL at hp
  split at hp
  · dsimp only at hp
    split at hp
    · exact h p hp
    · split at hp
      · exact h p hp
      · rcases List.mem_or_eq_of_mem_set hp with hp | hp
        · exact h p hp
        · rw [hp]
          have := h _ (List.getElem_mem (l := Ls) (n := i.toNat) (by omega))
          exact ⟨this.1, this.2.1, by show (spB _ _ _).size ≤ _; rw [spB_size]; exact this.2.2⟩
  · exact h p hp
section
variable {w0 W W' : World} {pr pr' : List (Nat × Obj)} {b mb nodes n : Nat} {f : Int → Int → Bool} {Ls Lt : List Pkt} {d : Nat} {cs : List (Int × Int)}
theorem TN.sub (h : TN w0 W pr b mb nodes n f Ls d Lt cs) (hs : ∀ p ∈ pr', p ∈ pr) : TN w0 W pr' b mb nodes n f Ls d Lt cs := by
  obtain ⟨v, vL, vC, h1, h2, h3, h4⟩ := h.two
  exact ⟨⟨v, vL, vC, h1, h2, h3, fun p hm => h4 p (hs p hm)⟩, h.ord, h.base, h.bel, fun p hm => h.pr p (hs p hm)⟩
theorem TN.below (h : TN w0 W pr b mb nodes n f Ls d Lt cs) (hb : Below W.heap.size W W') : TN w0 W' pr b mb nodes n f Ls d Lt cs := by
  obtain ⟨v, vL, vC, h1, h2, h3, h4⟩ := h.two
  exact ⟨⟨v, vL, vC, h1.below hb, h2.below hb, h3, h4⟩, h.ord, h.base, h.bel.trans (hb.mono h.bel.size), fun p hm => ⟨(hb.block _ (Array.getElem?_eq_some_iff.1 (h.pr p hm).1).1).trans (h.pr p hm).1, (h.pr p hm).2⟩⟩
theorem TN.dlt (h : TN w0 W pr b mb nodes n f Ls d Lt cs) : d < W.heap.size := by obtain ⟨v, vL, vC, h1, h2, _⟩ := h.two; exact h2.lt
theorem TN.mblt (h : TN w0 W pr b mb nodes n f Ls d Lt cs) : mb < b := by obtain ⟨v, vL, vC, h1, h2, _⟩ := h.two; exact h1.mb
theorem TN.alloc (h : TN w0 W pr b mb nodes n f Ls d Lt cs) (o : Obj) : TN w0 (W.alloc o) ((W.heap.size, o) :: pr) b mb nodes n f Ls d Lt cs := by
  have h' := h.below (below_alloc W o)
  have hd := h.dlt
  have hm := h.mblt
  have ho := h.ord
  obtain ⟨v, vL, vC, h1, h2, h3, h4⟩ := h.two
  refine ⟨⟨v, vL, vC, h1.below (below_alloc W o), h2.below (below_alloc W o), h3, fun p hm => ?_⟩, h.ord, h.base, h'.bel, fun p hp => ?_⟩
  · rcases List.mem_cons.1 hm with rfl | hm
    · intro hk
      have := (own_lt h1.own _ hk).2
      simp at this
    · exact h4 p hm
  · rcases List.mem_cons.1 hp with rfl | hp
    · exact ⟨heap_alloc_new _ _, by show W.heap.size ≠ b; omega, by show W.heap.size ≠ mb; omega, by show W.heap.size ≠ d; omega⟩
    · exact h'.pr p hp
theorem TN.lo (h : TN w0 W pr b mb nodes n f Ls d Lt cs) : NetLo W.heap.size b W := by
  obtain ⟨v, vL, vC, h1, h2, h3, h4⟩ := h.two
  exact ⟨_, _, v, h1.blk, (Array.getElem?_eq_some_iff.1 h1.blk).1, fun k hk => (own_lt h1.own k hk).2⟩
/-- the program's net goes on. -/
theorem TN.net {fn : FuncId} {args : Array Value} {Pe : Ending → World → Prop} {n' : Nat} {f' : Int → Int → Bool} {Ls' : List Pkt} (h : TN w0 W pr b mb nodes n f Ls d Lt cs)
    (F : ∀ v, Nt W b mb nodes n f v (Ls.flatMap encP) Ls.length → Calls Try.prog fn args W fun e w' => Pe e w' ∧ ∃ v', Nt w' b mb nodes n' f' v' (Ls'.flatMap encP) Ls'.length ∧ Keep (b :: mb :: v.ownBlock.toList) W w' ∧ (v'.ownBlock = v.ownBlock ∨ ∀ k, v'.ownBlock = some k → W.heap.size ≤ k)) :
    Calls Try.prog fn args W fun e w' => Pe e w' ∧ TN w0 w' pr b mb nodes n' f' Ls' d Lt cs := by
  have hd := h.dlt
  have hmb := h.mblt
  have hor := h.ord
  have hba := h.base
  obtain ⟨v, vL, vC, h1, h2, h3, h4⟩ := h.two
  refine (F v h1).mono ?_
  rintro e w' ⟨he, v', hn, hk, hr⟩
  have hS : ∀ k, k ∈ (b :: mb :: v.ownBlock.toList : List Nat) → k = b ∨ k = mb ∨ v.ownBlock = some k := fun k hk => by simpa using hk
  have hv' : ∀ k, v'.ownBlock = some k → v.ownBlock = some k ∨ W.heap.size ≤ k := fun k hk => by
    rcases hr with e | e
    · exact .inl (e ▸ hk)
    · exact .inr (e k hk)
  refine ⟨he, ⟨v', vL, vC, hn, h2.keep hk (fun hm => ?_) (fun k hk' hm => ?_) (fun k hk' hm => ?_), fun k hk' => ?_, fun p hm hk' => ?_⟩, hor, hba, h.bel.trans (hk.below h.bel.size fun k hm => ?_), fun p hm => ⟨keep_block hk (h.pr p hm).1 fun hx => ?_, (h.pr p hm).2⟩⟩
  · rcases hS _ hm with e | e | e
    · omega
    · omega
    · exact (h3 _ e).1 rfl
  · have := (own_lt h2.own k hk').1
    rcases hS _ hm with e | e | e
    · omega
    · omega
    · exact (h3 _ e).2.1 hk'
  · have := (own_lt h2.cut k hk').1
    rcases hS _ hm with e | e | e
    · omega
    · omega
    · exact (h3 _ e).2.2 hk'
  · rcases hv' k hk' with e | e
    · exact h3 k e
    · exact ⟨by omega, fun hl => by have := (own_lt h2.own k hl).2; omega, fun hl => by have := (own_lt h2.cut k hl).2; omega⟩
  · rcases hv' _ hk' with e | e
    · exact h4 p hm e
    · have := (Array.getElem?_eq_some_iff.1 (h.pr p hm).1).1; omega
  · rcases hS _ hm with e | e | e
    · omega
    · omega
    · have := (own_lt h1.own _ e).1; omega
  · rcases hS _ hx with e | e | e
    · exact (h.pr p hm).2.1 e
    · exact (h.pr p hm).2.2.1 e
    · exact h4 p hm e
/-- the document's net goes on. -/
theorem TN.doc {fn : FuncId} {args : Array Value} {Pe : Ending → World → Prop} {Lt' : List Pkt} {cs' : List (Int × Int)} (h : TN w0 W pr b mb nodes n f Ls d Lt cs)
    (F : ∀ vL vC, Dd W d nodes vL Lt vC cs → Calls Try.prog fn args W fun e w' => Pe e w' ∧ GD d nodes vL vC Lt' cs' W w') :
    Calls Try.prog fn args W fun e w' => Pe e w' ∧ TN w0 w' pr b mb nodes n f Ls d Lt' cs' := by
  have hd := h.dlt
  have hmb := h.mblt
  have hor := h.ord
  have hba := h.base
  obtain ⟨v, vL, vC, h1, h2, h3, h4⟩ := h.two
  refine (F vL vC h2).mono ?_
  rintro e w' ⟨he, vL', vC', hD, hk, hl, hc⟩
  refine ⟨he, ⟨v, vL', vC', ⟨keep_block hk h1.blk (by simp; omega), own_keep h1.own hk (fun k hk' => by have := (h3 k hk').1; simpa using this), h1.map.keep hk (by simp; omega), h1.mb⟩, hD, fun k hk' => ⟨(h3 k hk').1, fun hx => ?_, fun hx => ?_⟩, h4⟩, hor, hba, h.bel.trans (hk.below h.bel.size fun k hm => by simp at hm; omega), fun p hm => ⟨keep_block hk (h.pr p hm).1 (by have := (h.pr p hm).2.2.2; simpa using this), (h.pr p hm).2⟩⟩
  · rcases hl with e | e
    · exact (h3 k hk').2.1 (e ▸ hx)
    · have := e k hx; have := (own_lt h1.own k hk').2; omega
  · rcases hc with e | e
    · exact (h3 k hk').2.2 (e ▸ hx)
    · have := e k hx; have := (own_lt h1.own k hk').2; omega
theorem TN.start {w1 w2 : World} (hb : Below w0.heap.size w0 w1) (hN : Nt w1 b mb nodes n f (.slice none 0 0) [] 0) (hbase : w0.heap.size ≤ mb) (hD : Dd w2 w1.heap.size nodes (.slice none 0 0) [] (.slice none 0 0) cs) (hb2 : Below w1.heap.size w1 w2) : TN w0 w2 [] b mb nodes n f [] w1.heap.size [] cs :=
  ⟨⟨.slice none 0 0, _, _, hN.below hb2, hD, (by intro k hk; cases hk), by simp⟩, (Array.getElem?_eq_some_iff.1 hN.blk).1, hbase, hb.trans (hb2.mono hb.size), by simp⟩
end
section
variable {w0 W W' : World} {pr pr' : List (Nat × Obj)} {b mb nodes n : Nat} {f : Int → Int → Bool} {Ls Lt : List Pkt} {d : Nat} {cs : List (Int × Int)}
theorem goes_tn {v : Value} {L : List Pkt} {k : Nat} (hk : k = L.length) (h : GoesN b mb nodes n f v (L.flatMap encP) k W W') : ∃ v', Nt W' b mb nodes n f v' (L.flatMap encP) L.length ∧ Keep (b :: mb :: v.ownBlock.toList) W W' ∧ (v'.ownBlock = v.ownBlock ∨ ∀ k, v'.ownBlock = some k → W.heap.size ≤ k) := by
  subst hk
  obtain ⟨v', h1, h2, h3⟩ := h
  exact ⟨v', h1, h2.mono (by intro x hx; simp at hx ⊢; rcases hx with e | e <;> simp [e]), h3⟩
theorem stay_tn {v : Value} (h : Nt W b mb nodes n f v (Ls.flatMap encP) Ls.length) (hb : Below W.heap.size W W') : ∃ v', Nt W' b mb nodes n f v' (Ls.flatMap encP) Ls.length ∧ Keep (b :: mb :: v.ownBlock.toList) W W' ∧ (v'.ownBlock = v.ownBlock ∨ ∀ k, v'.ownBlock = some k → W.heap.size ≤ k) := ⟨v, h.below hb, .of_below hb, .inl rfl⟩
theorem tn_take (h : TN w0 W pr b mb nodes n f Ls d Lt cs) (hL : Ls.length ≤ 256) (i : Nat) (hi : i < Ls.length) :
    Calls Try.prog 19 #[.pointer (some ⟨b, 0, none⟩), .int .i64 i] W fun e w' => e = .returned (.tuple #[pv Ls[i], .int .i64 0]) ∧ TN w0 w' pr b mb nodes n f (Ls.eraseIdx i) d Lt cs :=
  h.net fun v hv => (take_ok b mb nodes n f v Ls i W hv hi hL).mono fun e w' ⟨he, hg⟩ => ⟨he, goes_tn (by rw [List.length_eraseIdx_of_lt hi]) hg⟩
theorem tn_take_no (h : TN w0 W pr b mb nodes n f Ls d Lt cs) (i : Int) (hi : ¬ (0 ≤ i ∧ i < Ls.length)) :
    Calls Try.prog 19 #[.pointer (some ⟨b, 0, none⟩), .int .i64 i] W fun e w' => e = .returned (.tuple #[.agg #[.int .i64 0, .int .i64 0, .string ⟨#[]⟩, .bool false], .int .i64 8]) ∧ TN w0 w' pr b mb nodes n f Ls d Lt cs :=
  h.net fun v hv => (take_no b nodes mb n f v _ _ i W hv hi).mono fun e w' ⟨he, hb⟩ => ⟨he, stay_tn hv hb⟩
theorem tn_dtake (h : TN w0 W pr b mb nodes n f Ls d Lt cs) (hL : Lt.length ≤ 256) (i : Nat) (hi : i < Lt.length) :
    Calls Try.prog 28 #[.pointer (some ⟨d, 0, none⟩), .int .i64 i] W fun e w' => e = .returned (.tuple #[pv Lt[i], .int .i64 0]) ∧ TN w0 w' pr b mb nodes n f Ls d (Lt.eraseIdx i) cs :=
  h.doc fun vL vC hD => dtake_ok d nodes vL vC Lt cs i W hD hi hL
theorem tn_dtake_no (h : TN w0 W pr b mb nodes n f Ls d Lt cs) (i : Int) (hi : ¬ (0 ≤ i ∧ i < Lt.length)) :
    Calls Try.prog 28 #[.pointer (some ⟨d, 0, none⟩), .int .i64 i] W fun e w' => e = .returned (.tuple #[.agg #[.int .i64 0, .int .i64 0, .string ⟨#[]⟩, .bool false], .int .i64 8]) ∧ TN w0 w' pr b mb nodes n f Ls d Lt cs :=
  h.doc fun vL vC hD => (dtake_no d nodes vL vC Lt cs i W hD hi).mono fun e w' ⟨he, hb⟩ => ⟨he, gd_same hD hb⟩
theorem tn_double (h : TN w0 W pr b mb nodes n f Ls d Lt cs) (i : Int) :
    Calls Try.prog 22 #[.pointer (some ⟨b, 0, none⟩), .int .i64 i] W fun e w' => e = .returned (.int .i64 (doubleL Ls i).1) ∧ TN w0 w' pr b mb nodes n f (doubleL Ls i).2 d Lt cs :=
  h.net fun v hv => by
    by_cases hi : 0 ≤ i ∧ i < Ls.length
    · obtain ⟨k, rfl⟩ : ∃ k : Nat, i = (k : Int) := ⟨i.toNat, by omega⟩
      have hk : k < Ls.length := by omega
      by_cases hf : Ls.length < 256
      · rw [doubleL_ok hk hf]
        refine (double_ok b mb nodes n f v Ls k W hv hk hf).mono fun e w' ⟨he, v', hn, hch⟩ => ⟨he, v', by rw [List.length_append]; exact hn, hch.keep.mono (by intro x hx; simp at hx ⊢; rcases hx with e | e <;> simp [e]), hch.row⟩
      · rw [doubleL_full hk hf]
        exact (double_full b nodes mb n f v _ _ k W hv hk (by omega)).mono fun e w' ⟨he, hw⟩ => ⟨he, by subst hw; exact stay_tn hv (Below.refl _ _)⟩
    · rw [doubleL_no hi]
      exact (double_no b nodes mb n f v _ _ i W hv hi).mono fun e w' ⟨he, hw⟩ => ⟨he, by subst hw; exact stay_tn hv (Below.refl _ _)⟩
theorem tn_ddouble (h : TN w0 W pr b mb nodes n f Ls d Lt cs) (i : Int) :
    Calls Try.prog 29 #[.pointer (some ⟨d, 0, none⟩), .int .i64 i] W fun e w' => e = .returned (.int .i64 (doubleL Lt i).1) ∧ TN w0 w' pr b mb nodes n f Ls d (doubleL Lt i).2 cs :=
  h.doc fun vL vC hD => by
    by_cases hi : 0 ≤ i ∧ i < Lt.length
    · obtain ⟨k, rfl⟩ : ∃ k : Nat, i = (k : Int) := ⟨i.toNat, by omega⟩
      have hk : k < Lt.length := by omega
      by_cases hf : Lt.length < 256
      · rw [doubleL_ok hk hf]
        exact ddouble_ok d nodes vL vC Lt cs k W hD hk hf
      · rw [doubleL_full hk hf]
        exact (ddouble_full d nodes vL vC Lt cs k W hD hk (by omega)).mono fun e w' ⟨he, hw⟩ => ⟨he, by subst hw; exact gd_same hD (Below.refl _ _)⟩
    · rw [doubleL_no hi]
      exact (ddouble_no d nodes vL vC Lt cs i W hD hi).mono fun e w' ⟨he, hw⟩ => ⟨he, by subst hw; exact gd_same hD (Below.refl _ _)⟩
theorem tn_spoil (h : TN w0 W pr b mb nodes n f Ls d Lt cs) (hL : Ls.length ≤ 256) (i x : Int) (y : Nat) (hy : y < 256) :
    Calls Try.prog 32 #[.pointer (some ⟨b, 0, none⟩), .int .i64 i, .int .i64 x, .int .u8 y] W fun e w' => e = .returned (.int .i64 (spoilL Ls i x y).1) ∧ TN w0 w' pr b mb nodes n f (spoilL Ls i x y).2 d Lt cs :=
  h.net fun v hv => by
    by_cases hi : 0 ≤ i ∧ i < Ls.length
    · obtain ⟨k, rfl⟩ : ∃ k : Nat, i = (k : Int) := ⟨i.toNat, by omega⟩
      have hk : k < Ls.length := by omega
      rw [spoilL_at hk]
      by_cases hq : Ls[k].q = true
      · have hb := spoil_bad b mb nodes n f v Ls k x y W hv hk hL (fun h => by rw [hq] at h; cases h)
        rw [if_pos hq] at hb
        rw [if_pos hq]
        exact hb.mono fun e w' ⟨he, hw⟩ => ⟨he, by subst hw; exact stay_tn hv (Below.refl _ _)⟩
      · have hq' : Ls[k].q = false := by simpa using hq
        rw [if_neg hq]
        by_cases hx : x < 0 ∨ (Ls[k].s.size : Int) ≤ x ∨ y = 0
        · have hb := spoil_bad b mb nodes n f v Ls k x y W hv hk hL (fun _ => by omega)
          rw [if_neg hq] at hb
          rw [if_pos hx]
          exact hb.mono fun e w' ⟨he, hw⟩ => ⟨he, by subst hw; exact stay_tn hv (Below.refl _ _)⟩
        · rw [if_neg hx]
          obtain ⟨t, rfl⟩ : ∃ t : Nat, x = (t : Int) := ⟨x.toNat, by omega⟩
          simp only [Int.toNat_natCast]
          exact (spoil_ok b mb nodes n f v Ls k t y W hv hk hL hq' (by omega) (by omega) hy).mono fun e w' ⟨he, hg⟩ => ⟨he, goes_tn (by simp) hg⟩
    · rw [spoilL_no hi]
      exact (spoil_no b nodes mb n f v _ _ i x y W hv hi).mono fun e w' ⟨he, hw⟩ => ⟨he, by subst hw; exact stay_tn hv (Below.refl _ _)⟩
theorem tn_dspoil (h : TN w0 W pr b mb nodes n f Ls d Lt cs) (hL : Lt.length ≤ 256) (hg : ∀ p ∈ Lt, goodP p) (i x : Int) (y : Nat) (hy : y < 256) :
    Calls Try.prog 33 #[.pointer (some ⟨d, 0, none⟩), .int .i64 i, .int .i64 x, .int .u8 y] W fun e w' => e = .returned (.int .i64 (spoilL Lt i x y).1) ∧ TN w0 w' pr b mb nodes n f Ls d (spoilL Lt i x y).2 cs :=
  h.doc fun vL vC hD => by
    by_cases hi : 0 ≤ i ∧ i < Lt.length
    · obtain ⟨k, rfl⟩ : ∃ k : Nat, i = (k : Int) := ⟨i.toNat, by omega⟩
      have hk : k < Lt.length := by omega
      rw [spoilL_at hk]
      by_cases hq : Lt[k].q = true
      · have hb := dspoil_bad d nodes vL vC Lt cs k x y W hD hk hL (fun h => by rw [hq] at h; cases h)
        rw [if_pos hq] at hb
        rw [if_pos hq]
        exact hb.mono fun e w' ⟨he, hw⟩ => ⟨he, gd_same hD hw⟩
      · have hq' : Lt[k].q = false := by simpa using hq
        rw [if_neg hq]
        by_cases hx : x < 0 ∨ (Lt[k].s.size : Int) ≤ x ∨ y = 0
        · have hb := dspoil_bad d nodes vL vC Lt cs k x y W hD hk hL (fun _ => by omega)
          rw [if_neg hq] at hb
          rw [if_pos hx]
          exact hb.mono fun e w' ⟨he, hw⟩ => ⟨he, gd_same hD hw⟩
        · rw [if_neg hx]
          obtain ⟨t, rfl⟩ : ∃ t : Nat, x = (t : Int) := ⟨x.toNat, by omega⟩
          simp only [Int.toNat_natCast]
          exact dspoil_ok d nodes vL vC Lt cs k t y W hD hk hL hq' (by omega) (hg _ (List.getElem_mem hk)).2.2 (by omega) hy
    · rw [spoilL_no hi]
      exact (dspoil_no d nodes vL vC Lt cs i x y W hD hi).mono fun e w' ⟨he, hw⟩ => ⟨he, by subst hw; exact gd_same hD (Below.refl _ _)⟩
theorem map_tn {v : Value} {n' : Nat} {f' : Int → Int → Bool} (h : Nt W' b mb nodes n' f' v (Ls.flatMap encP) Ls.length) (hk : Keep [mb] W W') : ∃ v', Nt W' b mb nodes n' f' v' (Ls.flatMap encP) Ls.length ∧ Keep (b :: mb :: v.ownBlock.toList) W W' ∧ (v'.ownBlock = v.ownBlock ∨ ∀ k, v'.ownBlock = some k → W.heap.size ≤ k) := ⟨v, h, hk.mono (by simp), .inl rfl⟩
theorem tn_cut (h : TN w0 W pr b mb nodes n f Ls d Lt cs) (hn : n < 1000000) (x y : Int) (hx : (Lit.int .i64 x).wf = true) (hy : (Lit.int .i64 y).wf = true) :
    Calls Try.prog 23 #[.pointer (some ⟨b, 0, none⟩), .int .i64 x, .int .i64 y] W fun e w' => e = .returned (.int .i64 (if okW nodes x y then 0 else 1)) ∧ TN w0 w' pr b mb nodes (n + 1) (if okW nodes x y then upd f x y true else f) Ls d Lt cs :=
  h.net fun v hv => (cut_any b mb nodes n f v _ _ x y W hv hn hx hy).mono fun e w' ⟨he, hn', hk⟩ => ⟨he, map_tn hn' hk⟩
theorem tn_heal (h : TN w0 W pr b mb nodes n f Ls d Lt cs) (hn : n < 1000000) (x y : Int) (hx : (Lit.int .i64 x).wf = true) (hy : (Lit.int .i64 y).wf = true) :
    Calls Try.prog 24 #[.pointer (some ⟨b, 0, none⟩), .int .i64 x, .int .i64 y] W fun e w' => e = .returned (.int .i64 (if okW nodes x y then 0 else 1)) ∧ TN w0 w' pr b mb nodes (n + 1) (if okW nodes x y then upd f x y false else f) Ls d Lt cs :=
  h.net fun v hv => (heal_any b mb nodes n f v _ _ x y W hv hn hx hy).mono fun e w' ⟨he, hn', hk⟩ => ⟨he, map_tn hn' hk⟩
theorem tn_healall (h : TN w0 W pr b mb nodes n f Ls d Lt cs) :
    Calls Try.prog 31 #[.pointer (some ⟨b, 0, none⟩)] W fun e w' => e = .returned (.tuple #[]) ∧ TN w0 w' pr b mb nodes 0 (fun _ _ => false) Ls d Lt cs :=
  h.net fun v hv => (heal_all b mb nodes n f v _ _ W hv).mono fun e w' ⟨he, hn', hk⟩ => ⟨he, map_tn hn' hk⟩
theorem tn_dset (h : TN w0 W pr b mb nodes n f Ls d Lt cs) (hc : cs.length ≤ 1000000) (x y : Int) (cv : Bool) :
    Calls Try.prog 30 #[.pointer (some ⟨d, 0, none⟩), .int .i64 x, .int .i64 y, .bool cv] W fun e w' => e = .returned (.int .i64 (if okW nodes x y then 0 else 1)) ∧ TN w0 w' pr b mb nodes n f Ls d Lt (if okW nodes x y then setL cs x y cv else cs) :=
  h.doc fun vL vC hD => dset_any d nodes vL vC Lt cs x y cv W hD hc
/-- the document's Cuts = nil. -/
theorem tn_nocuts (h : TN w0 W pr b mb nodes n f Ls d Lt cs) : TN w0 (W.setCell ⟨d, 2, none⟩ (.slice none 0 0)) pr b mb nodes n f Ls d Lt [] ∧ W.frozen? ⟨d, 2, none⟩ = false ∧ ∃ vC, W.cell? ⟨d, 2, none⟩ = some vC := by
  have hd := h.dlt
  have hmb := h.mblt
  have hor := h.ord
  have hba := h.base
  obtain ⟨v, vL, vC, h1, h2, h3, h4⟩ := h.two
  have hk : Keep [d] W (W.setCell ⟨d, 2, none⟩ (.slice none 0 0)) := (Keep.refl _ _).setCell (p := ⟨d, 2, none⟩) (.inl (by simp)) _
  refine ⟨⟨⟨v, vL, .slice none 0 0, ⟨keep_block hk h1.blk (by simp; omega), own_keep h1.own hk (fun k hk' => by have := (h3 k hk').1; simpa using this), h1.map.keep hk (by simp; omega), h1.mb⟩, ⟨(Go.Proofs.Ytbdcgfdchkbcnaa.L.heap_setCell_at W d 2 _ _ _ _ h2.blk).trans rfl, own_keep h2.own hk (fun k hk => by have := (own_lt h2.own k hk).1; simp; omega), World.ownsRow_nil _ _ _ _⟩, fun k hk' => ⟨(h3 k hk').1, (h3 k hk').2.1, by intro hx; cases hx⟩, h4⟩, hor, hba, h.bel.trans (hk.below h.bel.size fun k hm => by simp at hm; omega), fun p hm => ⟨keep_block hk (h.pr p hm).1 (by have := (h.pr p hm).2.2.2; simpa using this), (h.pr p hm).2⟩⟩, h2.cell.2.2.2.2, vC, h2.cell.2.2.1⟩
theorem tn_send {B : Nat} (h : TN w0 W pr b mb nodes n f Ls d Lt cs) (hlo : NetLo B b W) (hL : Ls.length ≤ 256) (A : Option Addr) (N c : Nat) (ps : List Pkt) (hr : RdE W A N 4 (ps.map encP)) (hgd : ∀ p ∈ ps, goodP p) (ho : 0 < N → ∀ o, A = some o → o.block < w0.heap.size) :
    Calls Try.prog 17 #[.pointer (some ⟨b, 0, none⟩), .slice A N c] W fun e w' => (e = .returned (.int .i64 ((sendL nodes f ps Ls).2 : Int)) ∧ KB B W w') ∧ TN w0 w' pr b mb nodes n f (sendL nodes f ps Ls).1 d Lt cs :=
  h.net fun v hv => by
    have hb := h.base
    have hmb := h.mblt
    refine (send_any b mb nodes n f v Ls ps A N c W hv hL hr hgd fun hn o hA => ?_).mono ?_
    · have hw := hr.lt (by decide) hn o hA
      have := ho hn o hA
      refine ⟨hw, by omega, fun hk => ?_⟩
      have := (own_lt hv.own _ hk).1
      omega
    · rintro e w' ⟨rfl, v', hn, hl, hch⟩
      refine ⟨⟨rfl, fun k hk hlt => hch.keep.block k hlt fun hm => ?_⟩, v', hn, hch.keep.mono (by intro x hx; simp at hx ⊢; rcases hx with e | e <;> simp [e]), hch.row⟩
      obtain ⟨x, y, v0, h1, h2, h3⟩ := hlo
      rw [hv.blk] at h1
      have hvv : v = v0 := by
        have := Option.some.inj h1
        simp only [Obj.cells.injEq, Array.mk.injEq, List.cons.injEq, and_true] at this
        exact this.2.2
      rcases List.mem_cons.1 hm with e | hm
      · omega
      · have := h3 k (by rw [← hvv]; simpa using hm)
        omega
theorem tn_dsend (h : TN w0 W pr b mb nodes n f Ls d Lt cs) (hL : Lt.length ≤ 256) (hc : cs.length ≤ 1000000) {f0 : Int → Int → Bool} (hcoh : Coh f0 cs) (A : Option Addr) (N c : Nat) (ps : List Pkt) (hr : RdE W A N 4 (ps.map encP)) (ho : 0 < N → ∀ o, A = some o → o.block ≠ d) :
    Calls Try.prog 26 #[.pointer (some ⟨d, 0, none⟩), .slice A N c] W fun e w' => e = .returned (.int .i64 ((sendL nodes f0 ps Lt).2 : Int)) ∧ TN w0 w' pr b mb nodes n f Ls d (sendL nodes f0 ps Lt).1 cs :=
  h.doc fun vL vC hD => dsend_any d nodes f0 vL vC Lt ps cs A N c W hD hL hc (hcoh.whole nodes) hr ho
theorem tn_len (h : TN w0 W pr b mb nodes n f Ls d Lt cs) : Calls Try.prog 18 #[.pointer (some ⟨b, 0, none⟩)] W fun e w' => e = .returned (.int .i64 (Ls.length : Nat)) ∧ W = w' := by
  obtain ⟨v, vL, vC, hv, _⟩ := h.two
  exact len_any b nodes mb n f v _ _ W hv
theorem tn_all (h : TN w0 W pr b mb nodes n f Ls d Lt cs) (hL : Ls.length ≤ 256) :
    Calls Try.prog 21 #[.pointer (some ⟨b, 0, none⟩)] W fun e w' => ∃ A c, e = .returned (.slice A Ls.length c) ∧ RdE w' A Ls.length 4 (Ls.map encP) ∧ Below W.heap.size W w' := by
  obtain ⟨v, vL, vC, hv, _⟩ := h.two
  refine (all_any b nodes mb n f v Ls W hv hL).mono ?_
  rintro e w' ⟨u, rfl, ho, hb⟩
  obtain ⟨A, c, rfl, hr, -, -⟩ := own_rdE ho encP_len rfl
  exact ⟨A, c, rfl, hr, hb⟩
theorem tn_row (h : TN w0 W pr b mb nodes n f Ls d Lt cs) : ∃ A c, W.cell? ⟨d, 1, none⟩ = some (.slice A Lt.length c) ∧ RdE W A Lt.length 4 (Lt.map encP) := by
  obtain ⟨v, vL, vC, hv, hD, _⟩ := h.two
  obtain ⟨A, c, hv', hr, -, -⟩ := own_rdE hD.own encP_len rfl
  have := hD.cell.2.1
  rw [hv'] at this
  exact ⟨A, c, this, hr⟩
end
end Go.Proofs.Ytbdcgfdchkbcnaa.Ne

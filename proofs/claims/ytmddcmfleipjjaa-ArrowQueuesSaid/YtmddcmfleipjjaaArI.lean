/- arrow: what lies in memory while finds go at the same time. -/
import Derived.Test.YtmddcmfleipjjaaArE
import Derived.Test.YtmddcmfleipjjaaK
namespace Go.Proofs.Ytmddcmfleipjjaa.Ar
open Go.RowKit Go.Proofs.Ytmddcmfleipjjaa.L Go.Proofs.Ytmddcmfleipjjaa.A Go.Proofs.Ytmddcmfleipjjaa.R Go.Proofs.Ytmddcmfleipjjaa.T Go.Proofs.Ytmddcmfleipjjaa.F Go.Proofs.Ytmddcmfleipjjaa.S Go.Proofs.Ytmddcmfleipjjaa.Sp Go.Proofs.Ytmddcmfleipjjaa.G Go.Proofs.Ytmddcmfleipjjaa.O Go.Proofs.Ytmddcmfleipjjaa.E Go.Proofs.Ytmddcmfleipjjaa.K
set_option linter.unusedVariables false
set_option linter.unusedSimpArgs false

abbrev FT : TypeId := 39
def encF (F : Fd) : List Value := [.int .i64 F.who, .int .i64 F.fr, .int .i64 F.tt]
theorem encF_len (F : Fd) : (encF F).length = 3 := rfl
abbrev NS (w : World) (b : Nat) (L : List Int) : Prop := NumSet Try.prog w 3 4 b L
/-- the arrows in block g, the sets of who asked and of who has somebody behind, the row of finds. -/
structure St (w0 W : World) (g c N : Nat) (to : Nat → Nat) (b am bm : Nat) (A : Option Addr) (n cp : Nat) (l : List Fd) (AL BL : List Int) : Prop where
  tb : Tb w0 W g c N to
  row : W.ownsRow b FT 3 (.slice A n cp) n (l.flatMap encF)
  ask : NS W am AL
  beh : NS W bm BL
  ord : g < am ∧ am < bm ∧ bm < b ∧ b ≤ W.heap.size ∧ w0.heap.size ≤ g
section
variable {w0 W W' : World} {g c N m b am bm n cp : Nat} {to : Nat → Nat} {A : Option Addr} {l : List Fd} {AL BL : List Int}
theorem St.len (h : St w0 W g c N to b am bm A n cp l AL BL) : l.length = n := by
  have h1 := h.row.1
  rw [flat_len encF_len] at h1
  omega
theorem St.below (h : St w0 W g c N to b am bm A n cp l AL BL) (hb : Below W.heap.size W W') : St w0 W' g c N to b am bm A n cp l AL BL := by
  have hk : Keep [] W W' := .of_below hb
  have := hb.size
  have := h.ord
  exact ⟨h.tb.below hb, own_kept h.row hb, h.ask.keep hk (by simp), h.beh.keep hk (by simp), by omega⟩
theorem St.turned (h : St w0 W g c N to b am bm A n cp l AL BL) (hm : In N m) {y : Nat} (ht : Turned g (m * 3) y W W') : St w0 W' g c N (upd to m y) b am bm A n cp l AL BL := by
  have ho := h.ord
  have hk : Keep [g] W W' := by
    obtain ⟨W0, hb, rfl⟩ := ht
    exact (Keep.of_below hb).setCell (.inl (by simp)) _
  have := hk.size
  exact ⟨h.tb.turn hm ht, own_keep h.row hk (fun k hk => by have := (own_lt h.row k hk).1; simp; omega), h.ask.keep hk (by simp; omega), h.beh.keep hk (by simp; omega), by omega⟩
theorem St.want (h : St w0 W g c N to b am bm A n cp l AL BL) (hm : In N m) : Calls Try.prog 9 #[.pointer (some ⟨g, m * 3, none⟩)] W fun e w' => e = .returned (.tuple #[.int .i64 ((if to m = m then 0 else to m : Nat) : Int), .bool (!(to m == m))]) ∧ St w0 w' g c N (upd to m m) b am bm A n cp l AL BL := by
  refine (want_any g (m * 3) m N (to m) W (h.tb.rr hm)).mono ?_
  rintro e w' ⟨rfl, ht⟩
  refine ⟨?_, h.turned hm ht⟩
  rw [show ((to m : Int) == (m : Int)) = (to m == m) by rw [Bool.eq_iff_iff]; simp; omega]
  unfold was
  by_cases e : to m = m
  · rw [if_pos e, if_pos (by omega)]; rfl
  · rw [if_neg e, if_neg (by omega)]
theorem St.find (hN : N ≤ 16) (h : St w0 W g c N to b am bm A n cp l AL BL) {y : Nat} (hm : In N m) (hy : In N y) (hn : T m y = y) (hne : m ≠ y) : Calls Try.prog 10 #[.pointer (some ⟨g, m * 3, none⟩), .int .i64 y] W fun e w' => e = .returned (.tuple #[.int .i64 ((if to m = m then 0 else to m : Nat) : Int), .bool (to m == m), .int .i64 0]) ∧ St w0 w' g c N (upd to m y) b am bm A n cp l AL BL := by
  have hf := find_any g (m * 3) m N (to m) y W (h.tb.rr hm) (by have := (hm.up hN).2; omega)
  have hc := near_in hN hm hy hn hne
  simp only [hc, if_true] at hf
  refine hf.mono ?_
  rintro e w' ⟨rfl, ht⟩
  refine ⟨?_, h.turned hm ht⟩
  rw [show ((to m : Int) == (m : Int)) = (to m == m) by rw [Bool.eq_iff_iff]; simp; omega]
  unfold was
  by_cases e : to m = m
  · rw [if_pos e, if_pos (by omega)]; rfl
  · rw [if_neg e, if_neg (by omega)]
theorem St.putA (h : St w0 W g c N to b am bm A n cp l AL BL) {x : Int} (hn : NS W' am (AL ++ [x])) (hg : W.grownBy W' (some am)) : St w0 W' g c N to b am bm A n cp l (AL ++ [x]) BL := by
  have ho := h.ord
  have hk : Keep [am] W W' := keep_grown hg [am] (by simp)
  have := hk.size
  exact ⟨⟨own_keep h.tb.own hk (fun k hk => by simp [Value.ownBlock] at hk; simp; omega), h.tb.bel.trans (below_of_grown hg h.tb.bel.size (fun k hk => by cases hk; omega))⟩, own_keep h.row hk (fun k hk => by have := (own_lt h.row k hk).1; simp; omega), hn, h.beh.keep hk (by simp; omega), by omega⟩
theorem St.putB (h : St w0 W g c N to b am bm A n cp l AL BL) {x : Int} (hn : NS W' bm (BL ++ [x])) (hg : W.grownBy W' (some bm)) : St w0 W' g c N to b am bm A n cp l AL (BL ++ [x]) := by
  have ho := h.ord
  have hk : Keep [bm] W W' := keep_grown hg [bm] (by simp)
  have := hk.size
  exact ⟨⟨own_keep h.tb.own hk (fun k hk => by simp [Value.ownBlock] at hk; simp; omega), h.tb.bel.trans (below_of_grown hg h.tb.bel.size (fun k hk => by cases hk; omega))⟩, own_keep h.row hk (fun k hk => by have := (own_lt h.row k hk).1; simp; omega), h.ask.keep hk (by simp; omega), hn, by omega⟩
theorem St.row_form {v : Value} {xs : List Value} (h : W.ownsRow b FT 3 v n xs) : ∃ A c, v = .slice A n c := own_form3 h
theorem St.push (h : St w0 W g c N to b am bm A n cp l AL BL) {v : Value} {F : Fd} {fs : List Value} (hF : fs = encF F) (ho : W'.ownsRow b FT 3 v (n + 1) (l.flatMap encF ++ fs)) (hg : W.grownBy W' (Value.slice A n cp).ownBlock) : ∃ A' cp', v = .slice A' (n + 1) cp' ∧ St w0 W' g c N to b am bm A' (n + 1) cp' (l ++ [F]) AL BL := by
  obtain ⟨A', cp', rfl⟩ := own_form3 ho
  have hord := h.ord
  have hB := hg.size
  have hbel : Below b W W' := below_next h.row hord.2.2.2.1 hg
  have key : ∃ S : List Nat, Keep S W W' ∧ ∀ k ∈ S, b ≤ k := by
    cases hx : (Value.slice A n cp).ownBlock with
    | none => exact ⟨[], keep_grown hg [] (by rw [hx]; simp), by simp⟩
    | some k => exact ⟨[k], keep_grown hg [k] (by rw [hx]; simp), by have := (own_lt h.row k hx).1; simpa using this⟩
  obtain ⟨S, hk, hS⟩ := key
  have hg1 : g ∉ S := fun e => by have := hS g e; omega
  have ha1 : am ∉ S := fun e => by have := hS am e; omega
  have hb1 : bm ∉ S := fun e => by have := hS bm e; omega
  refine ⟨A', cp', rfl, ⟨⟨own_keep h.tb.own hk (fun k hk => by simp [Value.ownBlock] at hk; rw [← hk]; exact hg1), h.tb.bel.trans (hbel.mono (by omega))⟩, ?_, h.ask.keep hk ha1, h.beh.keep hk hb1, by omega⟩⟩
  rw [List.flatMap_append]
  rw [hF] at ho
  simpa using ho
theorem St.fresh (h : St w0 W g c N to b am bm A n cp l AL BL) (hb : Below W.heap.size W W') {v : Value} {m : Nat} {l' : List Fd} (ho : W'.ownsRow W.heap.size FT 3 v m (l'.flatMap encF)) : ∃ A' cp', v = .slice A' m cp' ∧ St w0 W' g c N to b am bm A' m cp' l' AL BL := by
  obtain ⟨A', cp', rfl⟩ := own_form3 ho
  have h2 := h.below hb
  exact ⟨A', cp', rfl, ⟨h2.tb, own_base ho h.ord.2.2.2.1, h2.ask, h2.beh, h2.ord⟩⟩
/-- a find's cells. -/
theorem St.at (h : St w0 W g c N to b am bm A n cp l AL BL) {i : Nat} (hi : i < n) {F : Fd} (hF : l[i]? = some F) : ∃ gb, A = some ⟨gb, 0, none⟩ ∧ W.cell? ⟨gb, i * 3, none⟩ = some (.int .i64 F.who) ∧ W.cell? ⟨gb, i * 3 + 1, none⟩ = some (.int .i64 F.fr) ∧ W.cell? ⟨gb, i * 3 + 2, none⟩ = some (.int .i64 F.tt) := by
  obtain ⟨gb, rfl⟩ : ∃ gb, A = some ⟨gb, 0, none⟩ := by
    rcases h.row.2 with ⟨hv, hn⟩ | ⟨gb, cap, cur, hv, _⟩
    · omega
    · injection hv with h1 h2 h3
      exact ⟨gb, h1⟩
  obtain ⟨-, -, -, -, -, -, hr⟩ := own_some h.row
  have f := fun j hj => flat_at encF_len (j := j) hj l i
  simp only [hF, Option.bind_some] at f
  exact ⟨gb, rfl, hr _ _ (f 0 (by decide)), hr _ _ (f 1 (by decide)), hr _ _ (f 2 (by decide))⟩
theorem one_find {l : List Fd} : ∀ u ∈ l.flatMap encF, u.oneCell' = true := by
  intro u hu
  obtain ⟨F, -, hu⟩ := List.mem_flatMap.1 hu
  simp only [encF, List.mem_cons, List.not_mem_nil, or_false] at hu
  rcases hu with rfl | rfl | rfl <;> rfl
/-- the row without its find ix: the two parts that are read. -/
theorem St.parts (h : St w0 W g c N to b am bm A n cp l AL BL) (ix : Nat) (hix : ix < n) :
    ∃ gb AJ, A = some ⟨gb, 0, none⟩ ∧ n ≤ cp ∧ (if cp = ix + 1 then some (⟨gb, 0, none⟩ : Addr) else some ⟨gb, (ix + 1) * 3, none⟩) = some AJ ∧
      (∀ W', Below W.heap.size W W' → Lies W' (some ⟨gb, 0, none⟩) ((l.take ix).flatMap encF)) ∧ (∀ W', Below W.heap.size W W' → Lies W' (some AJ) ((l.drop (ix + 1)).flatMap encF)) := by
  have hln := h.len
  obtain ⟨gb, hv⟩ : ∃ gb, A = some ⟨gb, 0, none⟩ := by
    rcases h.row.2 with ⟨hv, hn⟩ | ⟨gb, cap, cur, hv, _⟩
    · omega
    · injection hv with h1 h2 h3
      exact ⟨gb, h1⟩
  subst hv
  have hfl := flat_len encF_len l
  have hRD : ∀ W', Below W.heap.size W W' → ∀ t u, (l.flatMap encF)[t]? = some u → W'.cell? ⟨gb, t, none⟩ = some u := fun W' hS t u hu => (own_some (h.below hS).row).2.2.2.2.2.2 t u hu
  have hle : n ≤ cp := (own_some h.row).2.2.2.1
  obtain ⟨AJ, hAJ⟩ : ∃ AJ : Addr, (if cp = ix + 1 then some (⟨gb, 0, none⟩ : Addr) else some ⟨gb, (ix + 1) * 3, none⟩) = some AJ := by
    by_cases h : cp = ix + 1
    · exact ⟨_, by rw [if_pos h]⟩
    · exact ⟨_, by rw [if_neg h]⟩
  refine ⟨gb, AJ, rfl, hle, hAJ, fun W hS h0 => ⟨gb, 0, rfl, fun t ht => ?_⟩, fun W hS h0 => ?_⟩
  · rw [Nat.zero_add, List.getElem?_eq_getElem ht]
    refine hRD W hS t _ ?_
    rw [← List.getElem?_eq_getElem ht]
    rw [← flat_take encF_len, List.length_take] at ht
    rw [← flat_take encF_len, List.getElem?_take_of_lt (by omega)]
  · have hlen := flat_len encF_len (l.drop (ix + 1))
    rw [List.length_drop] at hlen
    have hne : ¬ cp = ix + 1 := fun e => by
      have : l.length - (ix + 1) = 0 := by omega
      rw [this] at hlen
      omega
    rw [if_neg hne] at hAJ
    injection hAJ with hAJ
    subst hAJ
    refine ⟨gb, (ix + 1) * 3, rfl, fun t ht => ?_⟩
    rw [List.getElem?_eq_getElem ht]
    refine hRD W hS _ _ ?_
    rw [← List.getElem?_eq_getElem ht, ← flat_drop encF_len, List.getElem?_drop]
end
/-- the same, and a find that was copied. -/
structure StF (w0 W : World) (g c N : Nat) (to : Nat → Nat) (b am bm : Nat) (A : Option Addr) (n cp : Nat) (l : List Fd) (AL BL : List Int) (fb fw ff ft : Nat) : Prop where
  st : St w0 W g c N to b am bm A n cp l AL BL
  blk : W.heap[fb]? = some (.cells #[.int .i64 fw, .int .i64 ff, .int .i64 ft] FT (0, 0))
  ne : g ≠ fb
section
variable {w0 W W' : World} {g c N m b am bm n cp fb fw ff ft : Nat} {to : Nat → Nat} {A : Option Addr} {l : List Fd} {AL BL : List Int}
theorem StF.cells (h : StF w0 W g c N to b am bm A n cp l AL BL fb fw ff ft) : W.cell? ⟨fb, 0, none⟩ = some (.int .i64 fw) ∧ W.cell? ⟨fb, 1, none⟩ = some (.int .i64 ff) ∧ W.cell? ⟨fb, 2, none⟩ = some (.int .i64 ft) := by
  refine ⟨?_, ?_, ?_⟩
  · rw [cell_of_row W fb 0 _ _ _ h.blk]; rfl
  · rw [cell_of_row W fb 1 _ _ _ h.blk]; rfl
  · rw [cell_of_row W fb 2 _ _ _ h.blk]; rfl
theorem StF.below (h : StF w0 W g c N to b am bm A n cp l AL BL fb fw ff ft) (hb : Below W.heap.size W W') : StF w0 W' g c N to b am bm A n cp l AL BL fb fw ff ft :=
  ⟨h.st.below hb, (hb.block fb (Array.getElem?_eq_some_iff.1 h.blk).1).trans h.blk, h.ne⟩
theorem StF.fresh (h : StF w0 W g c N to b am bm A n cp l AL BL fb fw ff ft) (hb : Below W.heap.size W W') {v : Value} {m : Nat} {l' : List Fd} (ho : W'.ownsRow W.heap.size FT 3 v m (l'.flatMap encF)) : ∃ A' cp', v = .slice A' m cp' ∧ StF w0 W' g c N to b am bm A' m cp' l' AL BL fb fw ff ft := by
  obtain ⟨A', cp', hv, h1⟩ := h.st.fresh hb ho
  exact ⟨A', cp', hv, h1, (h.below hb).blk, h.ne⟩
theorem StF.find (hN : N ≤ 16) (h : StF w0 W g c N to b am bm A n cp l AL BL fb fw ff ft) {y : Nat} (hm : In N m) (hy : In N y) (hn : T m y = y) (hne : m ≠ y) : Calls Try.prog 10 #[.pointer (some ⟨g, m * 3, none⟩), .int .i64 y] W fun e w' => e = .returned (.tuple #[.int .i64 ((if to m = m then 0 else to m : Nat) : Int), .bool (to m == m), .int .i64 0]) ∧ StF w0 w' g c N (upd to m y) b am bm A n cp l AL BL fb fw ff ft := by
  have hf := find_any g (m * 3) m N (to m) y W (h.st.tb.rr hm) (by have := (hm.up hN).2; omega)
  have hc := near_in hN hm hy hn hne
  simp only [hc, if_true] at hf
  refine hf.mono ?_
  rintro e w' ⟨rfl, ht⟩
  have hk : Keep [g] W w' := by
    obtain ⟨W0, hb, rfl⟩ := ht
    exact (Keep.of_below hb).setCell (.inl (by simp)) _
  refine ⟨?_, h.st.turned hm ht, keep_block hk h.blk (by simpa using h.ne.symm), h.ne⟩
  rw [show ((to m : Int) == (m : Int)) = (to m == m) by rw [Bool.eq_iff_iff]; simp; omega]
  unfold was
  by_cases e : to m = m
  · rw [if_pos e, if_pos (by omega)]; rfl
  · rw [if_neg e, if_neg (by omega)]
theorem StF.make (h : St w0 W g c N to b am bm A n cp l AL BL) : StF w0 (W.alloc (.cells #[.int .i64 fw, .int .i64 ff, .int .i64 ft] FT)) g c N to b am bm A n cp l AL BL W.heap.size fw ff ft :=
  ⟨h.below (below_alloc _ _), heap_alloc_new _ _, by have := h.ord; omega⟩
end
end Go.Proofs.Ytmddcmfleipjjaa.Ar

/- cache: its state; IndexFunc on entries; find. -/
import Derived.Test.YtbdcgfdchkbcnaaCaA
import Derived.Test.YtbdcgfdchkbcnaaCaP
import Derived.Test.YtbdcgfdchkbcnaaF
namespace Go.Proofs.Ytbdcgfdchkbcnaa.Ca
open Go.RowKit Go.Proofs.Ytbdcgfdchkbcnaa.L Go.Proofs.Ytbdcgfdchkbcnaa.A Go.Proofs.Ytbdcgfdchkbcnaa.S Go.Proofs.Ytbdcgfdchkbcnaa.T Go.Proofs.Ytbdcgfdchkbcnaa.C Go.Proofs.Ytbdcgfdchkbcnaa.G Go.Proofs.Ytbdcgfdchkbcnaa.E Go.Proofs.Ytbdcgfdchkbcnaa.F
set_option linter.unusedVariables false
set_option linter.unusedSimpArgs false

def encE (e : Ent) : List Value := [.int .i64 e.1, .int .i64 e.2.1, .int .i64 e.2.2.1, .int .i64 e.2.2.2]
def aggE (e : Ent) : Value := .agg #[.int .i64 e.1, .int .i64 e.2.1, .int .i64 e.2.2.1, .int .i64 e.2.2.2]
theorem encE_len (e : Ent) : (encE e).length = 4 := rfl
theorem one_enc {L : List Ent} : ∀ u ∈ L.flatMap encE, u.oneCell' = true := by
  intro u hu
  obtain ⟨e, _, h⟩ := List.mem_flatMap.1 hu
  simp only [encE, List.mem_cons, List.not_mem_nil, or_false] at h
  rcases h with rfl | rfl | rfl | rfl <;> rfl
/-- a row of entries that is read, at one place. -/
theorem ent_at {w : World} {A : Option Addr} {n : Nat} {L : List Ent} (h : RdE w A n 4 (L.map encE)) (k : Nat) (hk : k < n) (hl : k < L.length) (x : Ent) (hx : L[k] = x) :
    ∃ b o, A = some ⟨b, o, none⟩ ∧ w.cell? ⟨b, o + k * 4, none⟩ = some (.int .i64 x.1) ∧ w.cell? ⟨b, o + k * 4 + 1, none⟩ = some (.int .i64 x.2.1) ∧ w.cell? ⟨b, o + k * 4 + 2, none⟩ = some (.int .i64 x.2.2.1) ∧ w.cell? ⟨b, o + k * 4 + 3, none⟩ = some (.int .i64 x.2.2.2) := by
  obtain ⟨b, o, hA, hl', hc⟩ := h.at k hk
  subst hx
  exact ⟨b, o, hA, hc 0 (by decide), hc 1 (by decide), hc 2 (by decide), hc 3 (by decide)⟩
def ToldE (P : Program) (fn : FuncId) (cap : Array Value) (p : Ent → Bool) (w0 : World) (xs : List Ent) : Prop :=
  ∀ x ∈ xs, ∀ w1, Below w0.heap.size w0 w1 → Calls P fn (#[aggE x] ++ cap) w1 fun e w' => e = .returned (.bool (p x)) ∧ Below w1.heap.size w1 w'
set_option maxHeartbeats 1000000 in
theorem index_ent (fn : FuncId) (cap : Array Value) (p : Ent → Bool) (A : Option Addr) (n c : Nat) (xs : List Ent) (w : World) (hbd : Bodied Try.prog fn) (hr : RdE w A n 4 (xs.map encE)) (hf : ToldE Try.prog fn cap p w xs) :
    Calls Try.prog 87 #[.slice A n c, .func (.func fn) #[] cap] w fun e w' => e = .returned (.int .i64 (idx p xs)) ∧ Below w.heap.size w w' := by
  have hln := hr.2.1
  have HR := Lib.hid hr
  have HF := Lib.hid hf
  have hl : xs.length = n := by simpa using hr.1
  have HL := Lib.hid hl
  obtain ⟨r, hres⟩ : ∃ r, Hid (idx p xs = r) := ⟨_, Lib.hid rfl⟩
  rw [hres.out]
  unfold Bodied at hbd
  clear hr hf hl
  go_enter Try.func87, Try.ntmps87
  go_wp2
  go_loopw [8] (fun i wr => ∃ k : Nat, k ≤ n ∧ i = .int .i64 k ∧ Below w.heap.size w wr ∧ Hid (∀ j, (h : j < xs.length) → j < k → p xs[j] = false)) (fun i _ => n - (intOf i).toNat)
  case atStart => exact ⟨0, by omega, rfl, Below.refl _ _, Lib.hid fun j _ h => absurd h (by omega)⟩
  case round =>
    obtain ⟨k, hk, rfl, hb, hnot⟩ := hrel
    by_cases hlt : k < n
    · have hkl : k < xs.length := by have := HL.out; omega
      obtain ⟨z, hz⟩ : ∃ z : Ent, Hid (xs[k] = z) := ⟨_, Lib.hid rfl⟩
      obtain ⟨ab, ao, hA, c0, c1, c2, c3⟩ := ent_at (HR.out.below hb) k hlt hkl z hz.out
      subst hA
      have hcall := HF.out z (by rw [← hz.out]; exact List.getElem_mem _) _ hb
      obtain ⟨q, hq⟩ : ∃ q, Hid (p z = q) := ⟨_, Lib.hid rfl⟩
      rw [hq.out] at hcall
      have hzq : Hid (p xs[k] = q) := Lib.hid (by rw [hz.out]; exact hq.out)
      clear hq hz
      obtain ⟨z1, z2, z3, z4⟩ := z
      dsimp only [aggE] at hcall c0 c1 c2 c3
      have HC := Lib.hid hcall
      clear hcall
      cases q
      · go_wp2_with fail
        refine HC.out.mono ?_
        rintro e w1 ⟨rfl, hb1⟩
        go_wp2
        go_roundw
        case rel => exact ⟨k + 1, by omega, by go_num, below2 hb hb1, Lib.hid fun j hj hjk => by
          by_cases e : j = k
          · subst e; exact hzq.out
          · exact hnot.out j hj (by omega)⟩
        case measure => simp [intOf]; omega
      · go_wp2_with fail
        refine HC.out.mono ?_
        rintro e w1 ⟨rfl, hb1⟩
        go_wp2
        go_ret
        exact ⟨reti (by rw [← hres.out]; exact (idx_some hkl hnot.out hzq.out).symm), below2 hb hb1⟩
    · go_wp2
      go_ret
      exact ⟨reti (by rw [← hres.out]; exact (idx_none fun j hj => hnot.out j hj (by have := HL.out; omega)).symm), hb⟩

/-- a cache's memory: room, and its row of entries. -/
structure Ca (T E : TypeId) (w : World) (b room : Nat) (v : Value) (L : List Ent) : Prop where
  blk : w.heap[b]? = some (.cells #[.int .i64 room, v] T (0, 0))
  own : w.ownsRow (b + 1) E 4 v L.length (L.flatMap encE)
theorem Ca.lt {T E : TypeId} {w : World} {b room : Nat} {v : Value} {L : List Ent} (h : Ca T E w b room v L) : b < w.heap.size := (Array.getElem?_eq_some_iff.1 h.blk).1
theorem Ca.ne {T E : TypeId} {w : World} {b room : Nat} {v : Value} {L : List Ent} (h : Ca T E w b room v L) : ∀ k, v.ownBlock = some k → b + 1 ≤ k ∧ k < w.heap.size := fun k hk => own_lt h.own k hk
theorem Ca.keep {S : List Nat} {T E : TypeId} {w w' : World} {b room : Nat} {v : Value} {L : List Ent} (h : Ca T E w b room v L) (hk : Keep S w w') (h1 : b ∉ S) (h2 : ∀ k, v.ownBlock = some k → k ∉ S) : Ca T E w' b room v L :=
  ⟨keep_block hk h.blk h1, own_keep h.own hk h2⟩
theorem Ca.below {T E : TypeId} {w w' : World} {b room : Nat} {v : Value} {L : List Ent} (h : Ca T E w b room v L) (hk : Below w.heap.size w w') : Ca T E w' b room v L := h.keep (S := []) (.of_below hk) (by simp) (by simp)
theorem Ca.rd {T E : TypeId} {w : World} {b room : Nat} {v : Value} {L : List Ent} (h : Ca T E w b room v L) : ∃ A c, v = .slice A L.length c ∧ RdE w A L.length 4 (L.map encE) ∧ (∀ o, A = some o → b + 1 ≤ o.block) ∧ (A = none → L.length = 0 ∧ c = 0) := own_rdE h.own encE_len rfl
theorem Ca.cell {T E : TypeId} {w : World} {b room : Nat} {v : Value} {L : List Ent} (h : Ca T E w b room v L) : w.cell? ⟨b, 0, none⟩ = some (.int .i64 room) ∧ w.cell? ⟨b, 1, none⟩ = some v ∧ w.frozen? ⟨b, 0, none⟩ = false ∧ w.frozen? ⟨b, 1, none⟩ = false :=
  ⟨by rw [cell_of_row w b 0 _ _ _ h.blk]; rfl, by rw [cell_of_row w b 1 _ _ _ h.blk]; rfl, frozen_of_row w b 0 _ _ h.blk, frozen_of_row w b 1 _ _ h.blk⟩
/-- what may have changed: the cache's own block and its row's; the row is the old one's block or a new one. -/
structure Chg (b : Nat) (v : Value) (w : World) (v' : Value) (w' : World) : Prop where
  keep : Keep (b :: v.ownBlock.toList) w w'
  row : v'.ownBlock = v.ownBlock ∨ ∀ k, v'.ownBlock = some k → w.heap.size ≤ k
theorem Chg.refl (b : Nat) (v : Value) (w : World) : Chg b v w v w := ⟨Keep.refl _ _, .inl rfl⟩
theorem Chg.of_below {b : Nat} {v : Value} {w w' : World} (h : Below w.heap.size w w') : Chg b v w v w' := ⟨.of_below h, .inl rfl⟩
theorem keep_of_new {S S' : List Nat} {a w w' : World} (h : Keep S a w) (h' : Keep S' w w') (hs : ∀ x ∈ S', x ∈ S ∨ a.heap.size ≤ x) : Keep S a w' := by
  refine ⟨h'.os.trans h.os, h'.tape.trans h.tape, h'.output.trans h.output, Nat.le_trans h.size h'.size, fun k hk hn => ?_⟩
  refine (h'.block k (Nat.lt_of_lt_of_le hk h.size) fun hx => ?_).trans (h.block k hk hn)
  rcases hs k hx with h | h
  · exact hn h
  · omega
theorem Chg.trans {b : Nat} {v v1 v2 : Value} {w w1 w2 : World} (h : Chg b v w v1 w1) (h' : Chg b v1 w1 v2 w2) : Chg b v w v2 w2 := by
  have hs := h.keep.size
  have hw : ∀ x ∈ (b :: v1.ownBlock.toList : List Nat), x ∈ (b :: v.ownBlock.toList : List Nat) ∨ w.heap.size ≤ x := by
    intro x hx
    rcases List.mem_cons.1 hx with rfl | hx
    · exact .inl (by simp)
    · have hx' : v1.ownBlock = some x := by simpa using hx
      rcases h.row with e | e
      · exact .inl (by rw [← e]; simp [hx'])
      · exact .inr (e x hx')
  refine ⟨keep_of_new h.keep h'.keep hw, ?_⟩
  rcases h'.row with e' | e'
  · rw [e']; exact h.row
  · exact .inr fun k hk => Nat.le_trans hs (e' k hk)
theorem Chg.below {b : Nat} {v v1 : Value} {w w1 w2 : World} (h : Chg b v w v1 w1) (h' : Below w1.heap.size w1 w2) : Chg b v w v1 w2 := h.trans (.of_below h')
/-- another cache stays, whose blocks are others. -/
theorem Ca.apart {T E T' E' : TypeId} {w w' : World} {b room b' : Nat} {v u u' : Value} {L : List Ent} (h : Ca T E w b room v L) (hc : Chg b' u w u' w') (h1 : b ≠ b') (h2 : u.ownBlock ≠ some b) (h3 : v.ownBlock ≠ some b') (h4 : ∀ k, v.ownBlock = some k → u.ownBlock ≠ some k) : Ca T E w' b room v L := by
  refine h.keep hc.keep (fun hm => ?_) fun k hk hm => ?_
  · rcases List.mem_cons.1 hm with e | hm
    · exact h1 e
    · exact h2 (by simpa using hm)
  · rcases List.mem_cons.1 hm with e | hm
    · exact h3 (e ▸ hk)
    · exact h4 k hk (by simpa using hm)

def fnd (c : Int) (L : List Ent) : Int := match look c L with | some i => (i : Int) | none => -1
theorem idx_fnd (c : Int) (L : List Ent) : idx (fun e => e.1 == c) L = fnd c L := by
  unfold fnd
  cases hl : look c L with
  | some i =>
    obtain ⟨hi, h1, h2⟩ := look_some hl
    exact idx_some hi (fun j hj hji => by simpa using h2 j hji) (by simpa using h1)
  | none => exact idx_none fun j hj => by simpa using look_none hl _ (List.getElem_mem hj)
theorem find1 (x : Nat) (c z1 z2 z3 z4 : Int) (w : World) (hx : w.cell? ⟨x, 0, none⟩ = some (.int .i64 c)) :
    Calls Try.prog 88 #[.agg #[.int .i64 z1, .int .i64 z2, .int .i64 z3, .int .i64 z4], .pointer (some ⟨x, 0, none⟩)] w fun e w' => e = .returned (.bool (z1 == c)) ∧ Below w.heap.size w w' := by
  have hx1 : ∀ o, (w.alloc o).cell? ⟨x, 0, none⟩ = some (.int .i64 c) := fun o => cell_below (below_alloc w o) hx
  have hbl := Lib.hid (below_alloc w (.cells #[.int .i64 z1, .int .i64 z2, .int .i64 z3, .int .i64 z4] 77))
  have he : (decide (z1 = c)) = (z1 == c) := by by_cases h : z1 = c <;> simp [h]
  go_enter Try.func88, Try.ntmps88
  go_wp2
  go_ret
  exact ⟨by first | rfl | rw [← he], hbl.out⟩
theorem bodied_find1 : Bodied Try.prog 88 := fun _ _ => by kernel_rfl
theorem find_any {T E : TypeId} (b room : Nat) (v : Value) (L : List Ent) (c : Int) (w : World) (h : Ca T E w b room v L) :
    Calls Try.prog 77 #[.pointer (some ⟨b, 0, none⟩), .int .i64 c] w fun e w' => e = .returned (.int .i64 (fnd c L)) ∧ Below w.heap.size w w' := by
  have hmf : ∀ (fn : Fn) (first cap : Array Value) (w : World), (Instr.makeFunc fn first cap).run Try.prog w = .ok (.func fn first cap) w := fun _ _ _ _ => rfl
  obtain ⟨W, hW⟩ : ∃ W, Hid (w.alloc (.cells #[.int .i64 c] 3) = W) := ⟨_, Lib.hid rfl⟩
  have hb0 : Below w.heap.size w W := by rw [← hW.out]; exact below_alloc _ _
  have cl : W.cell? ⟨w.heap.size, 0, none⟩ = some (.int .i64 c) := by rw [← hW.out]; exact cell_alloc w _ _ 0
  have told : ToldE Try.prog 88 #[.pointer (some ⟨w.heap.size, 0, none⟩)] (fun e => e.1 == c) W L := fun x hx w1 hb => find1 w.heap.size c x.1 x.2.1 x.2.2.1 x.2.2.2 w1 (cell_below hb cl)
  obtain ⟨A, cp, rfl, hr, _, _⟩ := (h.below hb0).rd
  have hv : ∀ o, (w.alloc o).cell? ⟨b, 1, none⟩ = some (.slice A L.length cp) := fun o => cell_below (below_alloc w o) h.cell.2.1
  have HC := Lib.hid (index_ent _ _ _ A L.length cp L W bodied_find1 hr told)
  have HB := Lib.hid hb0
  have hv' := hv (.cells #[.int .i64 c] 3)
  rw [hW.out] at hv'
  clear hr told h hb0 cl
  rw [idx_fnd] at HC
  obtain ⟨q, hq⟩ : ∃ q, Hid (fnd c L = q) := ⟨_, Lib.hid rfl⟩
  rw [hq.out] at HC ⊢
  go_enter Try.func77, Try.ntmps77
  go_wp2_with fail
  rw [hW.out]
  refine HC.out.mono ?_
  rintro e w1 ⟨rfl, hb1⟩
  go_wp2
  go_ret
  exact ⟨rfl, below2 HB.out hb1⟩
theorem find_nil (c : Int) (w : World) : Calls Try.prog 77 #[.pointer none, .int .i64 c] w fun e w' => e = .returned (.int .i64 (-1)) ∧ Below w.heap.size w w' := by
  have hb := Lib.hid (below_alloc w (.cells #[.int .i64 c] 3))
  go_enter Try.func77, Try.ntmps77
  go_wp2
  go_ret
  exact ⟨rfl, hb.out⟩
end Go.Proofs.Ytbdcgfdchkbcnaa.Ca

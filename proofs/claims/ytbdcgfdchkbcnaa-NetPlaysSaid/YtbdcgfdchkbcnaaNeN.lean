/- net: a map that counts packets. -/
import Derived.Test.YtbdcgfdchkbcnaaNeM
import Derived.WideKeyEntry
import Derived.Maps.Range
namespace Go.Proofs.Ytbdcgfdchkbcnaa.Ne
open Go.RowKit Go.Maps Go.ChangeMaps Go.Proofs.Ytbdcgfdchkbcnaa.L Go.Proofs.Ytbdcgfdchkbcnaa.O Go.Proofs.Ytbdcgfdchkbcnaa.R Go.Proofs.Ytbdcgfdchkbcnaa.A Go.Proofs.Ytbdcgfdchkbcnaa.S Go.Proofs.Ytbdcgfdchkbcnaa.T Go.Proofs.Ytbdcgfdchkbcnaa.C Go.Proofs.Ytbdcgfdchkbcnaa.G Go.Proofs.Ytbdcgfdchkbcnaa.E
set_option linter.unusedVariables false
set_option linter.unusedSimpArgs false

section
variable {P : Program} {t k e : TypeId} {q : IntKind} {b n : Nat} {D : DataW Unit}
theorem heap_setBlock_self {w : World} {es : Array MapEntry} {clock : Nat} (h : w.heap[b]? = some (.map es clock)) : setBlock w b (.map es clock) = w := by
  have e : w.heap.setIfInBounds b (.map es clock) = w.heap := by
    apply Array.ext_getElem?
    intro i
    by_cases hi : i = b
    · subst hi
      exact (heap_setBlock_same h _).trans h.symm
    · exact heap_setBlock_other h _ hi
  unfold setBlock
  rw [e]
theorem turned_keep {w w' : World} (h : w.mapTurned w' b) : Keep [b] w w' := by
  exact keep_grown h.grown [b] (fun k hk _ => by cases hk; simp)
theorem only_one {R : Value → Option (DataW Unit × List MemPlace)} {es : Array MapEntry} {clock : Nat} (F : WideElems.Fit P k R es clock) {x y : MapEntry} (hx : x ∈ es.toList) (hy : y ∈ es.toList) (h : x.key = y.key) : x = y := entry_eq_of_key ((MapKept.stamped_iff es clock).1 F.stamped).2.2 hx hy h
/-- an entry is looked up, made where there is none, and stored into. -/
theorem entry_at {w : World} (KL : WideMaps.KeyLaw P k) (K : Keyed P k) (ht : P.underlying t = some (.map k e)) (he : P.underlying e = some (.int q)) (hq0 : (Lit.int q 0).wf = true) (hz : ∀ u : World, (zeroValue e).run P u = .ok (.int q 0) u)
    (h : w.ownsMap P k (plainElem P e) b n D) (hn : n < 1000000) {key : Value} {kl : Lit} (hkey : keyOf P k key = some kl) :
    ∃ v0 st w1, (Instr.mapEntry t (.map (some b)) key).run P w = .ok (.tuple #[v0, .int .i64 st]) w1 ∧ Keep [b] w w1 ∧ ((Instr.lookup t (.map (some b)) key false).run P w1 = .ok v0 w1 ∧ (Instr.lookup t (.map (some b)) key false).run P w = .ok v0 w) ∧
      ∀ x : Int, (Lit.int q x).wf = true → ∃ w2, (Instr.entryStore t (.map (some b)) (.int .i64 st) (.int q x)).run P w1 = .ok () w2 ∧ w2.ownsMap P k (plainElem P e) b (n + 1) (D.put kl (.lit (.int q x))) ∧ Keep [b] w1 w2 := by
  have hown := h
  obtain ⟨es, clock, hb, F, hs, rfl⟩ := h
  obtain ⟨v0, st, es1, clock1, hE, hcase, hS⟩ := WideElems.entry_then_store (R := plainElem P e) KL ht hz hb F hkey
  have hlt := (Array.getElem?_eq_some_iff.1 hb).1
  have hb1 : (setBlock w b (.map es1 clock1)).heap[b]? = some (.map es1 clock1) := heap_setBlock_same hb _
  have hk1 : Keep [b] w (setBlock w b (.map es1 clock1)) := turned_keep ⟨es, clock, es1, clock1, hb, rfl⟩
  have hlook : (Instr.lookup t (.map (some b)) key false).run P w = .ok v0 w := by
    rcases Maps.fit_look false K ht (hz w) hb F hkey with ⟨hrun, hno, _⟩ | ⟨e0, y, hm, hk0, hrun, _, _, _⟩
    · rcases hcase with ⟨e1, hm1, hk1, _⟩ | ⟨_, hv⟩
      · exact absurd hk1 (hno e1 hm1)
      · rw [hv]; exact hrun
    · rcases hcase with ⟨e1, hm1, hk1, hv⟩ | ⟨hno, _⟩
      · have := only_one F hm hm1 (hk0.trans hk1.symm)
        rw [hv, ← this]; exact hrun
      · exact absurd hk0 (hno e0 hm)
  refine ⟨v0, st, setBlock w b (.map es1 clock1), hE, hk1, ⟨?_, hlook⟩, fun x hx => ?_⟩
  · rcases K.find w hkey es.toList F.keys with ⟨h1, h2⟩ | ⟨j, e0, h1, h2, h3⟩
    · have hv : v0 = .int q 0 := by
        rcases hcase with ⟨e1, hm1, hk1', _⟩ | ⟨_, hv⟩
        · exact absurd hk1' (h2 e1 hm1)
        · exact hv
      have hE' : (Instr.mapEntry t (.map (some b)) key).run P w = .ok (.tuple #[.int q 0, goInt clock]) (setBlock w b (.map (es.push ⟨key, .int q 0, clock⟩) (clock + 1))) := by
        simp [Instr.mapEntry, run_underlying ht, MapKept.run_getObj_map hb, K.check w false hkey, h1, hz, MapKept.run_setObj_map _ hb, Result.andThen, setBlock]
      have hw : setBlock w b (.map es1 clock1) = setBlock w b (.map (es.push ⟨key, .int q 0, clock⟩) (clock + 1)) := (Result.ok.inj (hE.symm.trans hE')).2
      clear hE hE' hS
      obtain ⟨w1, hw1⟩ : ∃ w1, setBlock w b (.map es1 clock1) = w1 := ⟨_, rfl⟩
      rw [hw1] at hw ⊢
      subst hw
      have hb2 : (setBlock w b (.map (es.push ⟨key, .int q 0, clock⟩) (clock + 1))).heap[b]? = some (.map (es.push ⟨key, .int q 0, clock⟩) (clock + 1)) := heap_setBlock_same hb _
      have F2 : WideElems.Fit P k (plainElem (H := Unit) P e) (es.push ⟨key, .int q 0, clock⟩) (clock + 1) := by
        refine ⟨by simp only [maxLen, Array.size_push]; omega, MapKept.stamped_push F.stamped h2, fun x hx => ?_⟩
        rw [Array.toList_push] at hx
        rcases List.mem_append.1 hx with hx | hx
        · exact F.reads x hx
        · obtain rfl := List.mem_singleton.1 hx
          exact ⟨(kl, .lit (.int q 0)), by simp [WideElems.rd, hkey, plainElem_int he hq0]⟩
      rcases Maps.fit_look false K ht (hz _) hb2 F2 hkey with ⟨_, hno, _⟩ | ⟨e1, y, hm, hk0, hrun, _, _, _⟩
      · exact absurd rfl (hno ⟨key, .int q 0, clock⟩ (by simp))
      · have hap := only_one F2 hm (y := ⟨key, .int q 0, clock⟩) (by simp) hk0
        rw [hrun, hap, hv]
        rfl
    · have hj : es[j]? = some e0 := by simpa using h2
      have hE' : (Instr.mapEntry t (.map (some b)) key).run P w = .ok (.tuple #[e0.val, goInt e0.born]) (setBlock w b (.map (es.modify j (fun e => { e with key := key })) clock)) := by
        simp [Instr.mapEntry, run_underlying ht, MapKept.run_getObj_map hb, K.check w false hkey, h1, hj, h3, K.stays w hkey, MapKept.run_setObj_map _ hb, Result.andThen, setBlock]
      have hsame : es.modify j (fun e => { e with key := key }) = es := by
        apply Array.ext'
        rw [Array.toList_modify]
        refine List.ext_getElem? fun i => ?_
        rw [List.getElem?_modify]
        by_cases hij : j = i
        · subst hij
          rw [h2, ← h3]
          simp
        · simp [hij]
      rw [hsame, heap_setBlock_self hb] at hE'
      have hw : setBlock w b (.map es1 clock1) = w := (Result.ok.inj (hE.symm.trans hE')).2
      clear hE hE' hS
      obtain ⟨w1, hw1⟩ : ∃ w1, setBlock w b (.map es1 clock1) = w1 := ⟨_, rfl⟩
      rw [hw1] at hw ⊢
      subst hw
      exact hlook
  · obtain ⟨es', clock', hr1, hr2⟩ := hS _ (.int q x) hb1
    obtain ⟨w', hu1, hu2, -⟩ := hown.update K ht (by simp only [maxLen]; omega) hkey (plainElem_int he hx)
    rw [hr2] at hu1
    obtain rfl : setBlock w b (.map es' clock') = w' := by injection hu1
    refine ⟨_, hr1, ?_, turned_keep ⟨es1, clock1, es', clock', hb1, rfl⟩⟩
    obtain ⟨es2, clock2, hb2, r⟩ := hu2
    refine ⟨es2, clock2, ?_, r⟩
    rw [← hb2]
    simp [setBlock]
end
/-! ### packets as keys -/
abbrev CM : TypeId := 37
abbrev IT : TypeId := 3
def pv (p : Pkt) : Value := .agg #[.int .i64 p.a, .int .i64 p.b, .string p.s, .bool p.q]
theorem pk_wide : (match Try.prog.underlying PT with | some (.array _ _) | some (.struct _) => true | _ => false) = true := by rw [Try.underlying29]
set_option maxRecDepth 100000 in
theorem pk_klaw : WideMaps.KeyLaw Try.prog PT := deep_law_laid way_laid (m := 2) (by omega) (of_decide_eq_true (by kernel_rfl)) (by kernel_rfl) pk_wide
theorem pk_law : Keyed Try.prog PT := Keyed.of_law pk_klaw
theorem pk_ncells : Try.prog.cellsOf PT = 4 := by kernel_rfl
theorem pk_formed {c0 c1 c2 c3 : Value} : (Value.agg #[c0, c1, c2, c3]).formed Try.prog PT = true := by simp [Value.formed, Try.underlying29, pk_ncells]
theorem pk_type : Try.prog.keyType PT = true := by kernel_rfl
theorem pk_lits (d : Nat) (x y : Int) (s : ByteArray) (q : Bool) (hx : (Lit.int .i64 x).wf = true) (hy : (Lit.int .i64 y).wf = true) (hs : s.size ≤ maxLen) : Try.prog.keyLits (d + 2) PT [.int .i64 x, .int .i64 y, .string s, .bool q] = some [.int .i64 x, .int .i64 y, .string s.data.toList, .bool q] := by
  have hi : Try.prog.underlying 3 = some (.int .i64) := by kernel_rfl
  have hci : Try.prog.cellsOf 3 = 1 := by kernel_rfl
  have hst : Try.prog.underlying 9 = some .string := by kernel_rfl
  have hcs : Try.prog.cellsOf 9 = 1 := by kernel_rfl
  have hbt : Try.prog.underlying 4 = some .bool := by kernel_rfl
  have hcb : Try.prog.cellsOf 4 = 1 := by kernel_rfl
  have h1 : ∀ z, (Lit.int .i64 z).wf = true → Try.prog.keyLits (d + 1) 3 [.int .i64 z] = some [.int .i64 z] := fun z hz => by
    unfold Program.keyLits
    rw [hi]
    simp [hz]
  have h2 : Try.prog.keyLits (d + 1) 9 [.string s] = some [.string s.data.toList] := by
    unfold Program.keyLits
    rw [hst]
    simp [hs]
  have h3 : Try.prog.keyLits (d + 1) 4 [.bool q] = some [.bool q] := by
    unfold Program.keyLits
    rw [hbt]
  unfold Program.keyLits
  rw [Try.underlying29]
  simp [pk_ncells, hci, hcs, hcb, h1 x hx, h1 y hy, h2, h3]
theorem pk_key (p : Pkt) (h : goodP p) : ∃ kl, keyOf Try.prog PT (pv p) = some kl := by
  unfold keyOf
  rw [Try.underlying29]
  obtain ⟨d, hd⟩ : ∃ d, Try.prog.types.size + 1 = d + 2 := ⟨Try.prog.types.size - 1, by have : 1 ≤ Try.prog.types.size := of_decide_eq_true (by kernel_rfl); omega⟩
  rw [hd]
  have hs := h.2.2
  simp [pk_type, pv, pk_formed, Value.cells, pk_lits d p.a p.b p.s p.q (Go.Proofs.Ytbdcgfdchkbcnaa.Ne.i64_wf h.1) (Go.Proofs.Ytbdcgfdchkbcnaa.Ne.i64_wf h.2.1) (by simp only [maxLen]; omega)]
theorem pv_inj {p p' : Pkt} (h : pv p = pv p') : p = p' := by
  simp only [pv, Value.agg.injEq, Array.mk.injEq, List.cons.injEq, Value.int.injEq, Value.string.injEq, Value.bool.injEq, true_and, and_true] at h
  cases p; cases p'
  simp_all
/-- the map at b counts as g. -/
def PkM (w : World) (b n : Nat) (g : Pkt → Int) : Prop :=
  ∃ D : DataW Unit, w.ownsMap Try.prog PT (plainElem Try.prog IT) b n D ∧ ∀ p kl, keyOf Try.prog PT (pv p) = some kl → D.atKey kl (.lit (.int .i64 0)) = .lit (.int .i64 (g p))
theorem PkM.keep {S : List Nat} {w w1 : World} {b n : Nat} {g : Pkt → Int} (h : PkM w b n g) (hk : Keep S w w1) (hb : b ∉ S) : PkM w1 b n g := by
  obtain ⟨D, h, r⟩ := h
  have hlt := h.lt
  obtain ⟨es, clock, hb', F, hs, hD⟩ := h
  exact ⟨D, ⟨es, clock, (hk.block b hlt hb).trans hb', F, hs, hD⟩, r⟩
theorem PkM.lt {w : World} {b n : Nat} {g : Pkt → Int} (h : PkM w b n g) : b < w.heap.size := by obtain ⟨D, h, _⟩ := h; exact h.lt
theorem pkm_made (w : World) : PkM (w.alloc (.map #[] 0)) w.heap.size 0 (fun _ => 0) := ⟨.map [], World.ownsMap_made w _ _ _, fun p kl _ => rfl⟩
theorem pkm_info : Try.prog.underlying CM = some (.map PT IT) ∧ Try.prog.underlying IT = some (.int .i64) := ⟨by kernel_rfl, by kernel_rfl⟩
theorem pkm_zero (w : World) : (zeroValue IT).run Try.prog w = .ok (.int .i64 0) w := by kernel_rfl
theorem pkm_look {w : World} {b n : Nat} {g : Pkt → Int} (h : PkM w b n g) (p : Pkt) (hp : goodP p) : (Instr.lookup CM (.map (some b)) (pv p) false).run Try.prog w = .ok (.int .i64 (g p)) w := by
  obtain ⟨D, h, hat⟩ := h
  obtain ⟨kl, hkl⟩ := pk_key p hp
  obtain ⟨c, hrun, hc, _⟩ := h.lookup_int pk_law pkm_info.1 pkm_info.2 (pkm_zero w) hkl
  rw [hat p kl hkl] at hc
  rw [hrun]
  obtain ⟨gp, hgp⟩ : ∃ z, g p = z := ⟨_, rfl⟩
  rw [hgp] at hc ⊢
  cases hc
  rfl
open Classical in
noncomputable def updC (g : Pkt → Int) (p : Pkt) (x : Int) : Pkt → Int := fun y => if y = p then x else g y
theorem pkm_turn {w : World} {b n : Nat} {g : Pkt → Int} (h : PkM w b n g) (hn : n < 1000000) (p : Pkt) (hp : goodP p) :
    ∃ st w1, (Instr.mapEntry CM (.map (some b)) (pv p)).run Try.prog w = .ok (.tuple #[.int .i64 (g p), .int .i64 st]) w1 ∧ Keep [b] w w1 ∧ (Instr.lookup CM (.map (some b)) (pv p) false).run Try.prog w1 = .ok (.int .i64 (g p)) w1 ∧
      ∀ x : Int, (Lit.int .i64 x).wf = true → ∃ w2, (Instr.entryStore CM (.map (some b)) (.int .i64 st) (.int .i64 x)).run Try.prog w1 = .ok () w2 ∧ PkM w2 b (n + 1) (updC g p x) ∧ Keep [b] w1 w2 := by
  have hl := pkm_look h p hp
  obtain ⟨D, h, hat⟩ := h
  obtain ⟨kl, hkl⟩ := pk_key p hp
  obtain ⟨v0, st, w1, h1, h2, ⟨h3, h4⟩, h5⟩ := entry_at pk_klaw pk_law pkm_info.1 pkm_info.2 (by decide) pkm_zero h hn hkl
  rw [hl] at h4
  have e : (Value.int .i64 (g p)) = v0 := (Result.ok.inj h4).1
  clear h4 hl
  obtain ⟨gp, hgp⟩ : ∃ z, g p = z := ⟨_, rfl⟩
  rw [hgp] at e ⊢
  subst e
  refine ⟨st, w1, h1, h2, h3, fun x hx => ?_⟩
  obtain ⟨w2, s1, s2, s3⟩ := h5 x hx
  refine ⟨w2, s1, ⟨_, s2, fun y kl' hkl' => ?_⟩, s3⟩
  unfold updC
  by_cases e : kl' = kl
  · subst e
    have hin := pv_inj (pk_law.inj hkl' hkl)
    rw [atKey_put_same h.isMap (pk_law.key hkl'), if_pos hin]
  · rw [atKey_put_other e, hat y kl' hkl', if_neg]
    intro h
    subst h
    rw [hkl] at hkl'
    exact e (Option.some.inj hkl').symm
end Go.Proofs.Ytbdcgfdchkbcnaa.Ne

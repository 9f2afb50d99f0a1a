/- What a law's arguments are made of, opened by their types' shape; and the last step from a walk to the given row. -/
import Derived.Below
import Derived.ChangeOld
import Derived.Deep.Slices
import Derived.OpenShut
import Derived.ProofKit
import Derived.ShutString
import Derived.SizedLaws
import Derived.Test.YtfpocddpnoighaaRows
import Derived.Test.YtfpocddpnoighaaMRu0
namespace Go.Proofs.Ytfpocddpnoighaa.O
open Go.ChangeShapes Go.WideShapes Go.ChangeAt Go.RowKit
open Go.Proofs.Ytfpocddpnoighaa.L
set_option linter.unusedVariables false
set_option linter.unusedSimpArgs false

/-- whatever is read as a value of type t is the code of some a that is good. -/
def Opens (P : Program) (w : World) (t : TypeId) {α : Type} (enc : α → List Value) (good : α → Prop) : Prop :=
  ∀ {H : Type} (e0 : TypeId × Value → H) (base : Nat) (spare : Nat → Bool) (held : Bool) (fuel : Nat) (cs : List Value) (x : DataW H × List MemPlace),
    DataW.trod e0 P w base spare held fuel t cs = some x → (∀ k ∈ x.1.weights P t, k ≤ reachBytes) → ∃ a, cs = enc a ∧ good a

section
variable {P : Program} {w : World}
theorem opens_bool {t : TypeId} (h : P.underlying t = some .bool) : Opens P w t (fun b : Bool => [.bool b]) fun _ => True := by
  intro H e0 base spare held fuel cs x hx _
  obtain ⟨b, rfl, _⟩ := DataW.trod_bool h hx
  exact ⟨b, rfl, trivial⟩
theorem opens_int {t : TypeId} {k : IntKind} (h : P.underlying t = some (.int k)) : Opens P w t (fun n : Int => [.int k n]) fun n => (Lit.int k n).wf = true := by
  intro H e0 base spare held fuel cs x hx _
  obtain ⟨n, rfl, _, hw⟩ := DataW.trod_int h hx
  exact ⟨n, rfl, hw⟩
theorem opens_string {t : TypeId} (h : P.underlying t = some .string) : Opens P w t (fun s : ByteArray => [.string s]) fun s => s.size ≤ 140737488351232 := by
  intro H e0 base spare held fuel cs x hx hz
  obtain ⟨s, rfl, rfl, hw⟩ := DataW.trod_string h hx
  refine ⟨s, rfl, ?_⟩
  have := hz s.data.toList.length (by simp [DataW.weights])
  simp only [Array.length_toList] at this
  exact this

/-- a slice value and what its elements read as. -/
structure Sl (α : Type) where
  A : Option Addr
  n : Nat
  c : Nat
  xs : List α
/-- element i of s lies at its place, cell by cell. -/
def SlOk {α : Type} (w : World) (sz by_ : Nat) (enc : α → List Value) (good : α → Prop) (s : Sl α) : Prop :=
  s.xs.length = s.n ∧ s.n ≤ s.c ∧ s.c ≤ 9223372036854775807 ∧ s.n * by_ ≤ 140737488351232 ∧ (s.A = none → s.n = 0 ∧ s.c = 0) ∧ (∀ a ∈ s.xs, good a ∧ (enc a).length = sz) ∧
  (0 < s.n → ∃ b o, s.A = some ⟨b, o, none⟩ ∧ ∀ i, i < s.n → ∀ j, j < sz → w.cell? ⟨b, o + (i * sz + j), none⟩ = (s.xs[i]?).bind fun a => (enc a)[j]?)
theorem mem_weightsAll {H : Type} {e : TypeId} : ∀ {ds : List (DataW H)} {d : DataW H}, d ∈ ds → ∀ k ∈ d.weights P e, k ∈ DataW.weightsAll P e ds
  | [], _, h, _, _ => by cases h
  | d0 :: ds, d, h, k, hk => by
    simp only [DataW.weightsAll, List.mem_append]
    rcases List.mem_cons.1 h with rfl | h
    · exact .inl hk
    · exact .inr (mem_weightsAll h k hk)
theorem addr_add (b o j : Nat) : (⟨b, o, none⟩ : Addr).add j = ⟨b, o + j, none⟩ := by unfold Addr.add; split <;> simp_all
theorem opens_slice {t e : TypeId} {α : Type} {enc : α → List Value} {good : α → Prop} {sz by_ : Nat} (h : P.underlying t = some (.slice e)) (hc : P.cellsOf e = sz) (hz0 : 0 < sz) (hb : P.bytesOf e = by_) (he : Opens P w e enc good) :
    Opens P w t (fun s : Sl α => [.slice s.A s.n s.c]) (SlOk w sz by_ enc good) := by
  intro H e0 base spare held fuel cs x hx hz
  rcases DataW.trod_slice h hx with ⟨rfl, rfl⟩ | ⟨a, len, cap, elems, rest, n, _, rfl, rfl, _, hl, hm, hlen, hel, _, _⟩
  · exact ⟨⟨none, 0, 0, []⟩, rfl, rfl, Nat.le_refl _, by simp, by simp, fun _ => ⟨rfl, rfl⟩, by simp, fun h => absurd h (by simp)⟩
  · subst hc
    have hw : ∀ i, i < len → ∃ y, elems[i]? = some y ∧ ∃ cs', w.cells? base (a.add (i * P.cellsOf e)) (P.cellsOf e) = some cs' ∧ ∃ z, cs' = enc z ∧ good z := by
      intro i hi
      have hg := hel i hi
      rw [List.getElem?_eq_getElem (by omega)] at hg
      obtain ⟨cs', h1, h2⟩ := Option.bind_eq_some_iff.1 hg
      refine ⟨_, List.getElem?_eq_getElem (by omega), cs', h1, he e0 base spare held n cs' _ h2 fun k hk => hz k ?_⟩
      simp only [DataW.weights, h, List.mem_cons, List.mem_append]
      exact .inr (.inl (mem_weightsAll (List.mem_map_of_mem (List.getElem_mem _)) k hk))
    obtain ⟨Z, hZ⟩ : ∃ Z : List α, Z.length = len ∧ ∀ i (hi : i < Z.length), w.cells? base (a.add (i * P.cellsOf e)) (P.cellsOf e) = some (enc Z[i]) ∧ good Z[i] := by
      clear hel hlen hx hz
      have key : ∀ m, m ≤ len → ∃ Z : List α, Z.length = m ∧ ∀ i (hi : i < Z.length), w.cells? base (a.add (i * P.cellsOf e)) (P.cellsOf e) = some (enc Z[i]) ∧ good Z[i] := by
        intro m
        induction m with
        | zero => intro _; exact ⟨[], rfl, fun i hi => absurd hi (by simp)⟩
        | succ m ih =>
          intro hm
          obtain ⟨Z, h1, h2⟩ := ih (by omega)
          obtain ⟨_, _, cs', h3, z, rfl, h5⟩ := hw m (by omega)
          refine ⟨Z ++ [z], by simp [h1], fun i hi => ?_⟩
          by_cases him : i < m
          · rw [List.getElem_append_left (by omega)]
            exact h2 i (by omega)
          · obtain rfl : i = m := by simp at hi; omega
            rw [List.getElem_append_right (by omega)]
            simp only [h1, Nat.sub_self, List.getElem_cons_zero]
            exact ⟨h3, h5⟩
      exact key len (Nat.le_refl _)
    refine ⟨⟨some a, len, cap, Z⟩, rfl, hZ.1, hl, by simpa [maxLen] using hm, ?_, (fun h => by cases h), ?_, ?_⟩
    · have := hz (((elems.map (·.1)).length + (rest.map (·.1)).length) * P.bytesOf e) (by simp [DataW.weights, h])
      simp only [List.length_map, hlen, hb, reachBytes] at this
      have h2 : len * by_ ≤ (len + rest.length) * by_ := Nat.mul_le_mul_right _ (by omega)
      show len * by_ ≤ _
      omega
    · intro z hzm
      obtain ⟨i, hi, rfl⟩ := List.getElem_of_mem hzm
      have := hZ.2 i hi
      exact ⟨this.2, (World.cells?_some this.1).2.1⟩
    · intro h0
      have h0' : 0 < len := h0
      have hc0 := (World.cells?_some (hZ.2 0 (by omega)).1).2.2 0 hz0
      have hl0 := (World.cells?_some (hZ.2 0 (by omega)).1).2.1
      rw [List.getElem?_eq_getElem (by omega)] at hc0
      obtain ⟨b, o, sp⟩ := a
      have hsp : sp = none := by simpa [Addr.add] using World.cell?_spot hc0
      subst hsp
      refine ⟨b, o, rfl, fun i hi0 j hj => ?_⟩
      have hi : i < len := hi0
      have hci := (World.cells?_some (hZ.2 i (by omega)).1).2.2 j hj
      rw [addr_add, addr_add] at hci
      rw [← Nat.add_assoc, hci, List.getElem?_eq_getElem (show i < Z.length by omega)]
      rfl

/-- a struct's fields, one behind the other. -/
def OpensFs (P : Program) (w : World) (fs : List Field) (off : Nat) {α : Type} (enc : α → List Value) (good : α → Prop) : Prop :=
  ∀ {H : Type} (e0 : TypeId × Value → H) (base : Nat) (spare : Nat → Bool) (held : Bool) (n : Nat) (cs : List Value) (xs : List (DataW H × List MemPlace)) (tot : Nat), cs.length = tot → xs.length = fs.length →
    (∀ (i : Nat) (f : Field), fs[i]? = some f → DataW.trod e0 P w base spare held n f.type ((cs.drop f.offset).take (P.cellsOf f.type)) = xs[i]?) →
    (∀ k ∈ DataW.weightsEach P (fs.map Field.type) (xs.map Prod.fst), k ≤ reachBytes) → off + (fs.map fun f => P.cellsOf f.type).sum = tot → ∃ a, cs.drop off = enc a ∧ good a
theorem opens_f0 (off : Nat) : OpensFs P w [] off (fun _ : Unit => []) fun _ => True := by
  intro H e0 base spare held n cs xs tot hc hx _ _ ht
  refine ⟨(), ?_, trivial⟩
  simp at ht
  exact List.drop_eq_nil_of_le (by omega)
theorem opens_fc {f : Field} {fs : List Field} {off off' : Nat} {α β : Type} {enc : α → List Value} {good : α → Prop} {enc' : β → List Value} {good' : β → Prop}
    (ho : f.offset = off) (hs : off + P.cellsOf f.type = off') (h1 : Opens P w f.type enc good) (h2 : OpensFs P w fs off' enc' good') :
    OpensFs P w (f :: fs) off (fun x : α × β => enc x.1 ++ enc' x.2) fun x => good x.1 ∧ good' x.2 := by
  intro H e0 base spare held n cs xs tot hc hx hf hz ht
  match xs, hx with
  | x :: xs, hx =>
    have ha := hf 0 f rfl
    simp only [List.getElem?_cons_zero] at ha
    obtain ⟨a, ea, ga⟩ := h1 e0 base spare held n _ x ha fun k hk => hz k (by simp only [List.map_cons, DataW.weightsEach, List.mem_append]; exact .inl hk)
    obtain ⟨b, eb, gb⟩ := h2 e0 base spare held n cs xs tot hc (by simpa using hx) (fun i g hg => by simpa using hf (i + 1) g (by simpa using hg))
      (fun k hk => hz k (by simp only [List.map_cons, DataW.weightsEach, List.mem_append]; exact .inr hk)) (by simp at ht; omega)
    refine ⟨(a, b), ?_, ga, gb⟩
    rw [ho] at ea
    show cs.drop off = enc a ++ enc' b
    rw [← ea, ← eb, ← hs, ← List.drop_drop, List.take_append_drop]
theorem opens_struct {t : TypeId} {fs : Array Field} {α : Type} {enc : α → List Value} {good : α → Prop} (h : P.underlying t = some (.struct fs)) (hc : (fs.toList.map fun f => P.cellsOf f.type).sum = P.cellsOf t)
    (hf : OpensFs P w fs.toList 0 enc good) : Opens P w t enc good := by
  intro H e0 base spare held fuel cs x hx hz
  obtain ⟨xs, n, _, rfl, hl, hxl, hxs⟩ := DataW.trod_struct h hx
  obtain ⟨a, ea, ga⟩ := hf e0 base spare held n cs xs _ hl (by simpa using hxl) (fun i f hif => hxs i f (by simpa using hif))
    (fun k hk => hz k (by simp only [DataW.weights, h]; exact hk)) (by rw [Nat.zero_add]; exact hc)
  exact ⟨a, by simpa using ea, ga⟩
/-- by another name for the same data. -/
theorem Opens.as {t : TypeId} {α β : Type} {enc : α → List Value} {good : α → Prop} (h : Opens P w t enc good) (enc' : β → List Value) (good' : β → Prop) (f : α → β) (he : ∀ a, enc a = enc' (f a)) (hg : ∀ a, good a → good' (f a)) : Opens P w t enc' good' := by
  intro H e0 base spare held fuel cs x hx hz
  obtain ⟨a, rfl, ga⟩ := h e0 base spare held fuel cs x hx hz
  exact ⟨f a, he a, hg a ga⟩
theorem reach_of {H : Type} {ts : List TypeId} {ds : List (DataW H)} (h : (DataW.weightsEach P ts ds).all (· ≤ reachBytes) = true) {j : Nat} {t : TypeId} {d : DataW H} (ht : ts[j]? = some t) (hd : ds[j]? = some d) : ∀ k ∈ d.weights P t, k ≤ reachBytes := by
  intro k hk
  have := List.all_eq_true.1 h _ (DataW.weights_mem_each ht hd k hk)
  simpa using this
theorem take_slice {t : TypeId} {α : Type} {G : Sl α → Prop} (op : Opens P w t (fun s : Sl α => [.slice s.A s.n s.c]) G) {H : Type} {e0 : TypeId × Value → H} {base : Nat} {spare : Nat → Bool} {held : Bool} {A : Option Addr} {n c : Nat} {d : DataW H} {ps : List MemPlace}
    (h : ∃ fuel, DataW.trod e0 P w base spare held fuel t (Value.slice A n c).cells.toList = some (d, ps)) (hz : ∀ k ∈ d.weights P t, k ≤ reachBytes) : ∃ s : Sl α, A = s.A ∧ n = s.n ∧ c = s.c ∧ G s := by
  obtain ⟨fuel, hf⟩ := h
  obtain ⟨s, e, g⟩ := op e0 base spare held fuel _ _ hf hz
  simp [Value.cells] at e
  exact ⟨s, e.1, e.2.1, e.2.2, g⟩
end
theorem agg_of_cells {P : Program} {W : World} {base : Nat} {t : TypeId} {v : Value} {l : List Value} {fs : Array Field} (hu : P.underlying t = some (.struct fs)) (h : Value.okWide P W .any base t v) (e : v.cells.toList = l) : v = .agg l.toArray := by
  obtain ⟨cs, rfl, _⟩ := okWide_struct hu h
  subst e
  simp [Value.cells]
theorem own : ownKnob Try.prog.godebug = none := by kernel_rfl
theorem laidOut : laidOutB Try.prog = true := by kernel_rfl
end Go.Proofs.Ytfpocddpnoighaa.O

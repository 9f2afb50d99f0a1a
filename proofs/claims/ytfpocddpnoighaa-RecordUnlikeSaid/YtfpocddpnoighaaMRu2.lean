/- A region that draws its order, walked operation by operation: what each slot comes to is said by a predicate that stays true while the others run; each operation is shown once, in whatever world it is met. -/
import Derived.Orders
import Derived.RegionTactic
import Derived.Test.YtfpocddpnoighaaMRu0
namespace Go.Proofs.Ytfpocddpnoighaa.R
open Go.RowKit
set_option linter.unusedVariables false
set_option linter.unusedSimpArgs false

section
variable {P : Program} {ops : Array Oper}

def dstOf (ops : Array Oper) (i : Nat) : Option Tmp := (ops[i]?).bind (·.dst)
def looks (ops : Array Oper) (o : Oper) (t : Tmp) : Bool :=
  (o.op.operands.any fun x => match x with | .tmp u => u == t | _ => false) || (match o.guard with | some (g, _) => dstOf ops g == some t | none => false)
def maskOk (ops : Array Oper) (b : Array Nat) : Bool := (List.range ops.size).all fun i => match ops[i]? with
  | none => false
  | some o => b.getD i 0 == o.after.toList.foldl (fun s e => if Region.binds .any e then s ||| 2 ^ e.on ||| b.getD e.on 0 else s) 0 && o.after.toList.all (fun e => !Region.binds .any e || decide (e.on < i))
def slotsOk (ops : Array Oper) (b : Array Nat) : Bool := (List.range ops.size).all fun i => (List.range ops.size).all fun j => i == j || match ops[i]?, dstOf ops j with
  | some o, some t => dstOf ops i != some t && (!looks ops o t || (b.getD i 0).testBit j || (b.getD j 0).testBit i)
  | _, _ => true
def rangeOk (ops : Array Oper) (n : Nat) : Bool := (List.range ops.size).all fun i => match dstOf ops i with | some t => decide (t < n) | none => true
def regOk (ops : Array Oper) (b : Array Nat) (n : Nat) : Bool := maskOk ops b && slotsOk ops b && rangeOk ops n && Region.noSelect ops

def putAll (a : Act) (vs : Nat → Value) : List (Nat × Tmp) → Act
  | [] => a
  | (j, d) :: l => putAll (a.put (some d) (vs j)) vs l
def ancs (ops : Array Oper) (b : Array Nat) (i : Nat) : List (Nat × Tmp) := (List.range ops.size).filterMap fun j => if (b.getD i 0).testBit j then (dstOf ops j).map (j, ·) else none
def alls (ops : Array Oper) : List (Nat × Tmp) := (List.range ops.size).filterMap fun j => (dstOf ops j).map (j, ·)
def slotOf (ops : Array Oper) (i : Nat) (a : Act) : Value := match dstOf ops i with | some d => a.tmps.getD d undef | none => undef

theorem putAll_size (a : Act) (vs : Nat → Value) : ∀ l, (putAll a vs l).tmps.size = a.tmps.size := by
  intro l
  induction l generalizing a with
  | nil => rfl
  | cons x l ih => obtain ⟨j, d⟩ := x; rw [putAll, ih]; simp [Act.put]
def setAll (t : Array Value) (vs : Nat → Value) : List (Nat × Tmp) → Array Value
  | [] => t
  | (j, d) :: l => setAll (t.setIfInBounds d (vs j)) vs l
theorem putAll_mk (t : Array Value) (dfs : List Deferred) (vs : Nat → Value) : ∀ l, putAll ⟨t, dfs⟩ vs l = ⟨setAll t vs l, dfs⟩
  | [] => rfl
  | (j, d) :: l => by rw [putAll, setAll]; exact putAll_mk _ dfs vs l
theorem putAll_defers (a : Act) (vs : Nat → Value) : ∀ l, (putAll a vs l).defers = a.defers := by
  intro l
  induction l generalizing a with
  | nil => rfl
  | cons x l ih => obtain ⟨j, d⟩ := x; rw [putAll, ih]; rfl
theorem putAll_none (a : Act) (vs : Nat → Value) (t : Tmp) : ∀ l : List (Nat × Tmp), (∀ j, (j, t) ∉ l) → (putAll a vs l).tmps[t]? = a.tmps[t]? := by
  intro l
  induction l generalizing a with
  | nil => intro _; rfl
  | cons x l ih =>
    obtain ⟨j, d⟩ := x
    intro h
    rw [putAll, ih _ (fun j' hj => h j' (by simp [hj]))]
    have hd : d ≠ t := fun e => h j (by simp [e])
    simp [Act.put, Array.getElem?_setIfInBounds, hd]
theorem putAll_some (a : Act) (vs : Nat → Value) (t : Tmp) (j : Nat) (ht : t < a.tmps.size) : ∀ l : List (Nat × Tmp), (j, t) ∈ l → (∀ k, (k, t) ∈ l → k = j) → (putAll a vs l).tmps[t]? = some (vs j) := by
  intro l
  induction l generalizing a with
  | nil => intro h; cases h
  | cons x l ih =>
    obtain ⟨k, d⟩ := x
    intro h hu
    rw [putAll]
    by_cases hin : (j, t) ∈ l
    · exact ih _ (by simpa [Act.put] using ht) hin (fun k' hk => hu k' (by simp [hk]))
    · have hkd : (j, t) = (k, d) := by
        rcases List.mem_cons.1 h with h | h
        · exact h
        · exact absurd h hin
      injection hkd with e1 e2
      subst e1; subst e2
      rw [putAll_none _ _ _ l (fun k' hk => hin (by have := hu k' (by simp [hk]); rw [← this]; exact hk))]
      simp [Act.put, ht]

theorem upon_env {o : Oper} {A a : Act} {Q : Exit → Act → World → Prop} {K : Value → World → Prop} {K' : Act → World → Prop} {i : Nat} (ho : ops[i]? = some o) (hd : ∀ d, o.dst = some d → d < A.tmps.size)
    (hK : ∀ v w', K v w' → ∀ u, (o.dst = none ∧ v = undef ∨ o.dst ≠ none ∧ u = v) → K' (a.put o.dst u) w') (r : Result Next)
    (h : o.upon P A (fun a' w' => a'.defers = A.defers ∧ K (slotOf ops i a') w') (fun _ _ _ => False) r) : o.upon P a K' Q r := by
  have hs : ∀ v, slotOf ops i (A.put o.dst v) = match o.dst with | some _ => v | none => undef := by
    intro v
    unfold slotOf dstOf
    rw [ho]
    cases hdo : o.dst with
    | none => simp [hdo]
    | some d => simp [hdo, Act.put, hd d hdo]
  have hK2 : ∀ v w', K (slotOf ops i (A.put o.dst v)) w' → K' (a.put o.dst v) w' := by
    intro v w' hk
    rw [hs] at hk
    cases hdo : o.dst with
    | none => rw [hdo] at hk; exact by have := hK undef w' hk v (.inl ⟨hdo, rfl⟩); rwa [hdo] at this
    | some d => rw [hdo] at hk; exact by have := hK v w' hk v (.inr ⟨by simp [hdo], rfl⟩); rwa [hdo] at this
  cases r with
  | ok n w' =>
    cases n <;> simp only [Oper.upon] at h ⊢
    case value v => exact hK2 _ _ h.2
    case skip => exact hK2 _ _ h.2
    case defer d =>
      have := h.1
      cases hdo : o.dst <;> simp [hdo, Act.put] at this
    case enter f args =>
      refine Calls.mono h fun e w'' he => ?_
      cases e with
      | returned v => exact hK2 _ _ he.2
      | panicked c => exact he.elim
      | outgrown => obtain ⟨_, _, hf⟩ := he; exact hf.elim
    case row row args => exact Rows.mono h fun v w'' he => hK2 _ _ he.2
  | halt x w' => cases x <;> simp only [Oper.upon] at h

theorem wpOp_env {o : Oper} {A a : Act} {w : World} {Q : Exit → Act → World → Prop} {K : Value → World → Prop} {K' : Act → World → Prop} {i : Nat} (ho : ops[i]? = some o) (hsel : ∀ cs b, o.op ≠ .select cs b)
    (hev : ∀ x ∈ o.op.operands, A.eval x = a.eval x) (hg : Region.wanted o (yielded ops A.tmps) = Region.wanted o (yielded ops a.tmps)) (hd : ∀ d, o.dst = some d → d < A.tmps.size)
    (hK : ∀ v w', K v w' → ∀ u, (o.dst = none ∧ v = undef ∨ o.dst ≠ none ∧ u = v) → K' (a.put o.dst u) w')
    (h : wpOp P ops (fun _ _ _ => False) i (fun a' w' => a'.defers = A.defers ∧ K (slotOf ops i a') w') A w) : wpOp P ops Q i K' a w := by
  unfold wpOp at h ⊢
  rw [ho] at h ⊢
  simp only at h ⊢
  rw [hg] at h
  split
  · rename_i hw
    rw [if_pos hw] at h
    rcases h with h | ⟨_, _, _, hf⟩
    · left
      unfold Oper.wp at h ⊢
      rw [← execOp_congr o hsel hev]
      exact upon_env ho hd hK _ h
    · exact hf.elim
  · rename_i hw
    rw [if_neg hw] at h
    have hs : slotOf ops i (A.put o.dst undef) = undef := by
      unfold slotOf dstOf
      rw [ho]
      cases hdo : o.dst with
      | none => simp [hdo]
      | some d => simp [hdo, Act.put, hd d hdo]
    have := h.2
    rw [hs] at this
    refine hK _ _ this _ ?_
    cases hdo : o.dst with
    | none => exact .inl ⟨rfl, rfl⟩
    | some d => exact .inr ⟨by simp, rfl⟩

theorem mask_mem {b : Nat → Nat} : ∀ (l : List Edge) (s : Nat) (j : Nat), (l.foldl (fun s e => if Region.binds .any e then s ||| 2 ^ e.on ||| b e.on else s) s).testBit j = true →
    s.testBit j = true ∨ ∃ e ∈ l, Region.binds .any e = true ∧ (e.on = j ∨ (b e.on).testBit j = true)
  | [], s, j, h => .inl h
  | e :: l, s, j, h => by
    rw [List.foldl_cons] at h
    rcases mask_mem l _ j h with h | ⟨e', he, h⟩
    · by_cases hb : Region.binds .any e = true
      · rw [if_pos hb, Nat.testBit_or, Nat.testBit_or, Nat.testBit_two_pow] at h
        simp only [Bool.or_eq_true, decide_eq_true_eq] at h
        rcases h with (h | h) | h
        · exact .inl h
        · exact .inr ⟨e, by simp, hb, .inl h⟩
        · exact .inr ⟨e, by simp, hb, .inr h⟩
      · rw [if_neg hb] at h
        exact .inl h
    · exact .inr ⟨e', by simp [he], h⟩
/-- what is listed holds all that stands ahead of it. -/
def Closed (ops : Array Oper) (L : Array Bool) : Prop := ∀ i o, ops[i]? = some o → L.getD i false = true → ∀ e ∈ o.after, Region.binds .any e = true → L.getD e.on false = true
theorem anc_listed {b : Array Nat} (hb : maskOk ops b = true) {L : Array Bool} (hc : Closed ops L) : ∀ n i, i ≤ n → ∀ o, ops[i]? = some o → (∀ e ∈ o.after, Region.binds .any e = true → L.getD e.on false = true) → ∀ j, (b.getD i 0).testBit j = true → L.getD j false = true := by
  intro n
  induction n with
  | zero =>
    intro i hi o ho hr j hj
    have hlt := (Array.getElem?_eq_some_iff.1 ho).1
    have h := List.all_eq_true.1 hb i (List.mem_range.2 hlt)
    rw [ho] at h
    simp only [Bool.and_eq_true, beq_iff_eq, List.all_eq_true] at h
    rw [h.1] at hj
    rcases mask_mem (b := fun k => b.getD k 0) _ _ _ hj with hj | ⟨e, he, hbe, hj⟩
    · simp at hj
    · have := h.2 e he
      simp only [hbe, Bool.not_true, Bool.false_or, decide_eq_true_eq] at this
      omega
  | succ n ih =>
    intro i hi o ho hr j hj
    have hlt := (Array.getElem?_eq_some_iff.1 ho).1
    have h := List.all_eq_true.1 hb i (List.mem_range.2 hlt)
    rw [ho] at h
    simp only [Bool.and_eq_true, beq_iff_eq, List.all_eq_true] at h
    rw [h.1] at hj
    rcases mask_mem (b := fun k => b.getD k 0) _ _ _ hj with hj | ⟨e, he, hbe, hj⟩
    · simp at hj
    · have hl := h.2 e he
      simp only [hbe, Bool.not_true, Bool.false_or, decide_eq_true_eq] at hl
      have hLe := hr e (by simpa using he) hbe
      rcases hj with rfl | hj
      · exact hLe
      · obtain ⟨oe, hoe⟩ : ∃ oe, ops[e.on]? = some oe := ⟨_, Array.getElem?_eq_getElem (by omega)⟩
        exact ih e.on (by omega) oe hoe (hc _ _ hoe hLe) j hj

theorem mem_ancs {b : Array Nat} {i j : Nat} {t : Tmp} : (j, t) ∈ ancs ops b i ↔ j < ops.size ∧ (b.getD i 0).testBit j = true ∧ dstOf ops j = some t := by
  unfold ancs
  simp only [List.mem_filterMap, List.mem_range]
  constructor
  · rintro ⟨k, hk, h⟩
    split at h
    · rename_i hb
      obtain ⟨d, hd, e⟩ := Option.map_eq_some_iff.1 h
      injection e with e1 e2
      subst e1; subst e2
      exact ⟨hk, hb, hd⟩
    · cases h
  · rintro ⟨hj, hb, hd⟩
    exact ⟨j, hj, by rw [if_pos hb, hd]; rfl⟩
theorem mem_alls {j : Nat} {t : Tmp} : (j, t) ∈ alls ops ↔ j < ops.size ∧ dstOf ops j = some t := by
  unfold alls
  simp only [List.mem_filterMap, List.mem_range]
  constructor
  · rintro ⟨k, hk, h⟩
    obtain ⟨d, hd, e⟩ := Option.map_eq_some_iff.1 h
    injection e with e1 e2
    subst e1; subst e2
    exact ⟨hk, hd⟩
  · rintro ⟨hj, hd⟩
    exact ⟨j, hj, by simp [hd]⟩

theorem dst_uniq {b : Array Nat} (hs : slotsOk ops b = true) {i j : Nat} {t : Tmp} (hi : dstOf ops i = some t) (hj : dstOf ops j = some t) : i = j := by
  by_cases h : i = j
  · exact h
  · have li : i < ops.size := by
      cases hx : ops[i]? with
      | none => simp [dstOf, hx] at hi
      | some o => exact (Array.getElem?_eq_some_iff.1 hx).1
    have lj : j < ops.size := by
      cases hx : ops[j]? with
      | none => simp [dstOf, hx] at hj
      | some o => exact (Array.getElem?_eq_some_iff.1 hx).1
    have := List.all_eq_true.1 (List.all_eq_true.1 hs i (List.mem_range.2 li)) j (List.mem_range.2 lj)
    rw [Array.getElem?_eq_getElem li, hj] at this
    simp [h, hi] at this
theorem look_order {b : Array Nat} (hs : slotsOk ops b = true) {i j : Nat} {t : Tmp} {o : Oper} (ho : ops[i]? = some o) (hj : dstOf ops j = some t) (hl : looks ops o t = true) (hne : i ≠ j) : (b.getD i 0).testBit j = true ∨ (b.getD j 0).testBit i = true := by
  have li := (Array.getElem?_eq_some_iff.1 ho).1
  have lj : j < ops.size := by
    cases hx : ops[j]? with
    | none => simp [dstOf, hx] at hj
    | some o => exact (Array.getElem?_eq_some_iff.1 hx).1
  have := List.all_eq_true.1 (List.all_eq_true.1 hs i (List.mem_range.2 li)) j (List.mem_range.2 lj)
  rw [ho, hj] at this
  simp only [Bool.or_eq_true, beq_iff_eq, hne, false_or, Bool.and_eq_true, Bool.not_eq_true', hl, Bool.true_eq_false] at this
  exact this.2

theorem act_ext {x y : Act} (h1 : x.tmps = y.tmps) (h2 : x.defers = y.defers) : x = y := by
  cases x; cases y; simp only at h1 h2; rw [h1, h2]
theorem count_lt (n i : Nat) (L : Array Bool) (hi : i < n) (hl : L.size = n) (hu : L.getD i false = false) :
    ((List.range n).filter fun j => !(L.setIfInBounds i true).getD j false).length < ((List.range n).filter fun j => !L.getD j false).length := by
  have e : ((List.range n).filter fun j => !(L.setIfInBounds i true).getD j false) = ((List.range n).filter fun j => !L.getD j false).filter fun j => decide (j ≠ i) := by
    rw [List.filter_filter]
    apply List.filter_congr
    intro j hj
    by_cases hji : j = i
    · subst hji
      simp [hl, hi]
    · rw [getD_set_ne false (Ne.symm hji)]
      simp [hji]
  rw [e, List.length_filter_lt_length_iff_exists]
  exact ⟨i, by rw [List.mem_filter]; exact ⟨List.mem_range.2 hi, by rw [hu]; rfl⟩, by simp⟩
abbrev slotIs (od : Option Tmp) (a' : Act) (v : Value) : Prop := match od with | some d => a'.tmps.getD d undef = v | none => v = undef
/-- one operation's run, told apart so that nothing looks into it unasked. -/
structure Runs (P : Program) (ops : Array Oper) (o : Oper) (A : Act) (w : World) (K : Act → World → Prop) : Prop where
  out : if Region.wanted o (yielded ops A.tmps) = true then Oper.wp P o A w K (fun _ _ _ => False) else K (A.put o.dst undef) w
theorem Runs.of_wp {o : Oper} {A : Act} {w : World} {K : Act → World → Prop} (hw : Region.wanted o (yielded ops A.tmps) = true) (h : Oper.wp P o A w K (fun _ _ _ => False)) : Runs P ops o A w K := ⟨by rw [if_pos hw]; exact h⟩
theorem wanted_none {o : Oper} {y : Nat → Option Bool} (h : o.guard = none) : Region.wanted o y = true := by simp [Region.wanted, h]
theorem wanted_some {o : Oper} {g : Nat} {b : Bool} {y : Nat → Option Bool} (h : o.guard = some (g, b)) (hy : y g = some b) : Region.wanted o y = true := by simp [Region.wanted, h, hy]
theorem yielded_of {g : Nat} {t : Tmp} {b : Bool} {tmps : Array Value} (h : dstOf ops g = some t) (hv : tmps[t]? = some (.bool b)) : yielded ops tmps g = some b := by
  unfold dstOf at h
  simp [yielded, h, hv]
theorem put_slot {a0 : Act} {vs : Nat → Value} {l : List (Nat × Tmp)} {d : Tmp} {v : Value} (hd : d < a0.tmps.size) : slotIs (some d) ((putAll a0 vs l).put (some d) v) v := by
  have : d < (putAll a0 vs l).tmps.size := by rw [putAll_size]; exact hd
  simp [slotIs, Act.put, this]
theorem put_dfs {a0 : Act} {vs : Nat → Value} {l : List (Nat × Tmp)} {d : Option Tmp} {v : Value} : ((putAll a0 vs l).put d v).defers = a0.defers := by
  cases d <;> simp [Act.put, putAll_defers]
/-- one operation, met in whatever world. -/
def OpGoal (P : Program) (ops : Array Oper) (Φ : Nat → Value → World → Prop) (S : World → Prop) (R : World → World → Prop) (dfs : List Deferred) (i : Nat) (A : Act) (w : World) : Prop :=
  ∃ o od, ops[i]? = some o ∧ o.dst = od ∧ ∀ K : Act → World → Prop, (∀ v w', Φ i v w' → S w' → R w w' → ∀ a' : Act, a'.defers = dfs → slotIs od a' v → K a' w') →
    Runs P ops o A w K
theorem opgoal {Φ : Nat → Value → World → Prop} {S : World → Prop} {R : World → World → Prop} {dfs : List Deferred} {i : Nat} {A : Act} {w : World} (o : Oper) (od : Option Tmp) (ho : ops[i]? = some o) (hod : o.dst = od)
    (h : ∀ K : Act → World → Prop, (∀ v w', Φ i v w' → S w' → R w w' → ∀ a' : Act, a'.defers = dfs → slotIs od a' v → K a' w') →
      Runs P ops o A w K) : OpGoal P ops Φ S R dfs i A w := ⟨o, od, ho, hod, h⟩
theorem OpGoal.run {Φ : Nat → Value → World → Prop} {S : World → Prop} {R : World → World → Prop} {i : Nat} {A : Act} {w : World} (h : OpGoal P ops Φ S R A.defers i A w) :
    wpOp P ops (fun _ _ _ => False) i (fun a' w' => a'.defers = A.defers ∧ (Φ i (slotOf ops i a') w' ∧ S w' ∧ R w w')) A w := by
  obtain ⟨o, od, ho, hod, h⟩ := h
  have := (h (fun a' w' => a'.defers = A.defers ∧ (Φ i (slotOf ops i a') w' ∧ S w' ∧ R w w')) (by
    intro v w' h1 h2 h3 a' h4 h5
    have hs : slotOf ops i a' = v := by
      unfold slotOf dstOf
      rw [ho]
      simp only [Option.bind_some, hod]
      cases od with
      | none => exact h5.symm
      | some d => exact h5
    rw [hs]
    exact ⟨h4, h1, h2, h3⟩)).out
  unfold wpOp
  rw [ho]
  simp only
  split
  · rename_i hw
    rw [if_pos hw] at this
    exact .inl this
  · rename_i hw
    rw [if_neg hw] at this
    exact this

/-- is what slot i holds asked for by an operation that has not come up, or at the end? -/
def need (ops : Array Oper) (nd : Array Nat) (fin : Nat) (L : Array Bool) (i : Nat) : Prop := fin.testBit i = true ∨ ∃ j, j < ops.size ∧ L.getD j false = false ∧ (nd.getD j 0).testBit i = true
def keep (ops : Array Oper) (b nd : Array Nat) (fin : Nat) (i k : Nat) : Bool := i != k && (fin.testBit i || (List.range ops.size).any fun j => j != k && (nd.getD j 0).testBit i && !(b.getD k 0).testBit j)
def ndOk (ops : Array Oper) (b nd : Array Nat) : Bool := (List.range ops.size).all fun j => nd.getD j 0 &&& b.getD j 0 == nd.getD j 0
structure Inv (P : Program) (ops : Array Oper) (Φ : Nat → Value → World → Prop) (S : World → Prop) (R : World → World → Prop) (nd : Array Nat) (fin : Nat) (a0 : Act) (w0 : World) (L : Array Bool) (a : Act) (w : World) : Prop where
  s : S w
  r : R w0 w
  size : L.size = ops.size
  done : ∀ i, i < ops.size → L.getD i false = true → need ops nd fin L i → Φ i (slotOf ops i a) w
  old : ∀ t, (∀ i, i < ops.size → L.getD i false = true → dstOf ops i ≠ some t) → a.tmps[t]? = a0.tmps[t]?
  tmps : a.tmps.size = a0.tmps.size
  dfs : a.defers = a0.defers
  closed : Closed ops L

theorem slot_eq {i : Nat} {t : Tmp} {a : Act} (h : dstOf ops i = some t) (ht : t < a.tmps.size) : a.tmps[t]? = some (slotOf ops i a) := by
  unfold slotOf
  rw [h]
  simp [ht]
theorem size_lt {i : Nat} {o : Oper} (h : ops[i]? = some o) : i < ops.size := (Array.getElem?_eq_some_iff.1 h).1
theorem getD_ft (L : Array Bool) (i : Nat) (h : i < L.size) : L.getD i true = L.getD i false := by simp [h]

theorem wp_region_env {id : Nat} {a0 : Act} {w0 : World} {Q : Exit → Act → World → Prop} (S : World → Prop) (R : World → World → Prop) (RK : Nat → World → World → Prop) (Φ : Nat → Value → World → Prop) (b nd : Array Nat) (fin_ : Nat) (hm : P.follows .mixedOrders = true)
    (hok : regOk ops b a0.tmps.size = true) (hnd : ndOk ops b nd = true) (hR0 : ∀ w, R w w) (hRt : ∀ u v w, R u v → R v w → R u w) (hRK : ∀ k u v, k < ops.size → RK k u v → R u v)
    (hst : ∀ i k, i < ops.size → k < ops.size → keep ops b nd fin_ i k = true → ∀ v w w', Φ i v w → RK k w w' → Φ i v w') (h0 : S { w0 with drawn := w0.drawn + 1 })
    (hop : ∀ i, i < ops.size → ∀ (vs : Nat → Value) w, S w → R { w0 with drawn := w0.drawn + 1 } w → (∀ j, j < ops.size → (nd.getD i 0).testBit j = true → Φ j (vs j) w) → OpGoal P ops Φ S (RK i) a0.defers i (putAll a0 vs (ancs ops b i)) w)
    (hend : ∀ (vs : Nat → Value) w, S w → R { w0 with drawn := w0.drawn + 1 } w → (∀ i, i < ops.size → fin_.testBit i = true → Φ i (vs i) w) → Q .normal (putAll a0 vs (alls ops)) w) : (Code.region id ops true).wp P Q a0 w0 := by
  simp only [regOk, Bool.and_eq_true] at hok
  obtain ⟨⟨⟨hb, hs⟩, hr⟩, hsel⟩ := hok
  have hrange : ∀ i t, dstOf ops i = some t → t < a0.tmps.size := by
    intro i t h
    have li : i < ops.size := by
      cases hx : ops[i]? with
      | none => simp [dstOf, hx] at h
      | some o => exact size_lt hx
    have := List.all_eq_true.1 hr i (List.mem_range.2 li)
    rw [h] at this
    simpa using this
  refine wp_region_any hm ?_
  have key : ∀ fuel (L : Array Bool) (a : Act) (w : World), Inv P ops Φ S R nd fin_ a0 { w0 with drawn := w0.drawn + 1 } L a w → ((List.range ops.size).filter fun i => !L.getD i false).length ≤ fuel → wpAny P .any ops Q fuel L a w := by
    intro fuel
    have fin : ∀ (L : Array Bool) (a : Act) (w : World), Inv P ops Φ S R nd fin_ a0 { w0 with drawn := w0.drawn + 1 } L a w → (∀ i, i < ops.size → L.getD i false = true) → Q .normal a w := by
      intro L a w hI hall
      have ha : a = putAll a0 (fun i => slotOf ops i a) (alls ops) := by
        have h1 : a.tmps = (putAll a0 (fun i => slotOf ops i a) (alls ops)).tmps := by
          apply Array.ext_getElem?
          intro t
          by_cases hw : ∃ i, dstOf ops i = some t
          · obtain ⟨i, hi⟩ := hw
            have ht := hrange i t hi
            have li : i < ops.size := by
              cases hx : ops[i]? with
              | none => simp [dstOf, hx] at hi
              | some o => exact size_lt hx
            rw [putAll_some a0 _ t i ht _ (mem_alls.2 ⟨li, hi⟩) (fun k hk => dst_uniq hs (mem_alls.1 hk).2 hi)]
            exact slot_eq hi (by rw [hI.tmps]; exact ht)
          · rw [putAll_none _ _ _ _ (fun j hj => hw ⟨j, (mem_alls.1 hj).2⟩)]
            exact hI.old t fun i _ _ hi => hw ⟨i, hi⟩
        have h2 : a.defers = (putAll a0 (fun i => slotOf ops i a) (alls ops)).defers := by rw [putAll_defers]; exact hI.dfs
        exact act_ext h1 h2
      rw [ha]
      exact hend _ w hI.s hI.r fun i hi hf => hI.done i hi (hall i hi) (.inl hf)
    have stuck : ∀ (L : Array Bool) (a : Act) (w : World), Inv P ops Φ S R nd fin_ a0 { w0 with drawn := w0.drawn + 1 } L a w → Region.ready .any ops L = [] → ∀ i, i < ops.size → L.getD i false = true := by
      intro L a w hI hre i
      induction i using Nat.strongRecOn with
      | _ i ih =>
        intro hi
        by_cases hl : L.getD i false = true
        · exact hl
        · exfalso
          have hmem : i ∈ Region.ready .any ops L := by
            rw [mem_ready]
            refine ⟨?_, _, Array.getElem?_eq_getElem hi, fun e he hbe => ?_⟩
            · rw [getD_ft L i (by rw [hI.size]; exact hi)]
              simpa using hl
            · have h := List.all_eq_true.1 hb i (List.mem_range.2 hi)
              rw [Array.getElem?_eq_getElem hi] at h
              simp only [Bool.and_eq_true, beq_iff_eq, List.all_eq_true] at h
              have h2 := h.2 e (by simpa using he)
              simp only [hbe, Bool.not_true, Bool.false_or, decide_eq_true_eq] at h2
              exact ih e.on h2 (by omega)
          rw [hre] at hmem
          cases hmem
    induction fuel with
    | zero =>
      intro L a w hI hcount
      have hall : ∀ i, i < ops.size → L.getD i false = true := by
        intro i hi
        by_cases hl : L.getD i false = true
        · exact hl
        · have : i ∈ (List.range ops.size).filter fun i => !L.getD i false := by
            rw [List.mem_filter]
            exact ⟨List.mem_range.2 hi, by simpa using hl⟩
          have := List.length_pos_of_mem this
          omega
      refine ⟨?_, fin L a w hI hall⟩
      rw [List.eq_nil_iff_forall_not_mem]
      intro i hi
      obtain ⟨hu, o, ho, _⟩ := mem_ready.1 hi
      have li := size_lt ho
      rw [getD_ft L i (by rw [hI.size]; exact li), hall i li] at hu
      cases hu
    | succ fuel ih =>
      intro L a w hI hcount
      refine ⟨fun hre => fin L a w hI (stuck L a w hI hre), fun i hi => ?_⟩
      obtain ⟨hu, o, ho, hready⟩ := mem_ready.1 hi
      have li := size_lt ho
      have hun : L.getD i false = false := by rw [← getD_ft L i (by rw [hI.size]; exact li)]; exact hu
      have hanc : ∀ j, (b.getD i 0).testBit j = true → L.getD j false = true := anc_listed hb hI.closed i i (Nat.le_refl _) o ho hready
      have hnot : ∀ j, (b.getD j 0).testBit i = true → L.getD j false = false := by
        intro j hj
        by_cases hl : L.getD j false = true
        · obtain ⟨oj, hoj⟩ : ∃ oj, ops[j]? = some oj := by
            by_cases hlt : j < ops.size
            · exact ⟨_, Array.getElem?_eq_getElem hlt⟩
            · have : L.getD j false = false := by simp [hI.size, hlt]
              rw [this] at hl; cases hl
          have := anc_listed hb hI.closed j j (Nat.le_refl _) oj hoj (hI.closed j oj hoj hl) i hj
          rw [hun] at this; cases this
        · simpa using hl
      have hgoal := hop i li (fun j => slotOf ops j a) w hI.s hI.r fun j hj hbj => by
        have hb2 : (b.getD i 0).testBit j = true := by
          have h := List.all_eq_true.1 hnd i (List.mem_range.2 li)
          rw [beq_iff_eq] at h
          rw [← h, Nat.testBit_and, Bool.and_eq_true] at hbj
          exact hbj.2
        exact hI.done j hj (hanc j hb2) (.inr ⟨i, li, hun, hbj⟩)
      generalize hA : putAll a0 (fun j => slotOf ops j a) (ancs ops b i) = A at hgoal
      have hAsz : A.tmps.size = a0.tmps.size := by rw [← hA, putAll_size]
      have hAd : A.defers = a0.defers := by rw [← hA, putAll_defers]
      have hslot : ∀ t, looks ops o t = true → A.tmps[t]? = a.tmps[t]? := by
        intro t hl
        by_cases hw : ∃ j, j < ops.size ∧ dstOf ops j = some t ∧ (b.getD i 0).testBit j = true
        · obtain ⟨j, hj, hd, hbj⟩ := hw
          have ht := hrange j t hd
          rw [← hA, putAll_some a0 _ t j ht _ (mem_ancs.2 ⟨hj, hbj, hd⟩) (fun k hk => dst_uniq hs (mem_ancs.1 hk).2.2 hd)]
          exact (slot_eq hd (by rw [hI.tmps]; exact ht)).symm
        · rw [← hA, putAll_none _ _ _ _ (fun j hj => hw ⟨j, (mem_ancs.1 hj).1, (mem_ancs.1 hj).2.2, (mem_ancs.1 hj).2.1⟩)]
          symm
          refine hI.old t fun j hj hlj hd => ?_
          by_cases hij : i = j
          · subst hij; rw [hun] at hlj; cases hlj
          · rcases look_order hs ho hd hl hij with h | h
            · exact hw ⟨j, hj, hd, h⟩
            · rw [hnot j h] at hlj; cases hlj
      have hev : ∀ x ∈ o.op.operands, A.eval x = a.eval x := by
        intro x hx
        cases x with
        | tmp t =>
          have hl : looks ops o t = true := by
            unfold looks
            rw [Bool.or_eq_true]
            left
            rw [Array.any_eq_true']
            exact ⟨_, hx, by simp⟩
          simp only [Act.eval, Array.getD_eq_getD_getElem?, hslot t hl]
        | _ => rfl
      have hwant : Region.wanted o (yielded ops A.tmps) = Region.wanted o (yielded ops a.tmps) := by
        unfold Region.wanted
        cases hg : o.guard with
        | none => rfl
        | some gw =>
          obtain ⟨g, want⟩ := gw
          simp only
          have hy : yielded ops A.tmps g = yielded ops a.tmps g := by
            unfold yielded
            cases hdg : (ops[g]?).bind (·.dst) with
            | none => rfl
            | some t =>
              have hl : looks ops o t = true := by
                unfold looks
                rw [Bool.or_eq_true]
                right
                simp [hg, dstOf, hdg]
              simp only [Option.bind_some, hslot t hl]
          rw [hy]
      rw [← hAd] at hgoal
      refine wpOp_env ho (Region.noSelect_spec hsel i o · · ho) hev hwant (fun d hd => ?_) (K := fun v w' => Φ i v w' ∧ S w' ∧ RK i w w') ?_ hgoal.run
      · rw [hAsz]
        exact hrange i d (by simp [dstOf, ho, hd])
      · rintro v w' ⟨h1, h2, h3⟩ u hcase
        have hsl : slotOf ops i (a.put o.dst u) = match o.dst with | some _ => u | none => undef := by
          unfold slotOf dstOf
          rw [ho]
          cases hdo : o.dst with
          | none => simp [hdo]
          | some d =>
            have := hrange i d (by simp [dstOf, ho, hdo])
            simp [hdo, Act.put, hI.tmps, this]
        have hother : ∀ j, j ≠ i → slotOf ops j (a.put o.dst u) = slotOf ops j a := by
          intro j hj
          cases hdj : dstOf ops j with
          | none => simp [slotOf, hdj]
          | some t =>
            cases hdo : o.dst with
            | none => rfl
            | some d =>
              have hne : d ≠ t := fun e => hj (dst_uniq hs hdj (by simp [dstOf, ho, hdo, e]))
              simp [slotOf, hdj, Act.put, Array.getElem?_setIfInBounds, hne]
        refine ih _ _ _ ⟨h2, hRt _ _ _ hI.r (hRK i _ _ li h3), by simpa using hI.size, fun j hj hlj hneed => ?_, fun t ht => ?_, ?_, ?_, ?_⟩ ?_
        · by_cases hji : j = i
          · subst hji
            rw [hsl]
            rcases hcase with ⟨hu1, hu2⟩ | ⟨hu1, hu2⟩
            · rw [hu1]
              simp only
              rw [← hu2]
              exact h1
            · cases hdo : o.dst with
              | none => exact absurd hdo hu1
              | some d => simp only; rw [hu2]; exact h1
          · rw [hother j hji]
            have hneed' : need ops nd fin_ L j ∧ keep ops b nd fin_ j i = true := by
              rcases hneed with hf | ⟨m, hm1, hm2, hm3⟩
              · exact ⟨.inl hf, by simp [keep, hf, hji]⟩
              · have hmi : m ≠ i := by
                  rintro rfl
                  simp [hI.size, li] at hm2
                rw [getD_set_ne false (Ne.symm hmi)] at hm2
                refine ⟨.inr ⟨m, hm1, hm2, hm3⟩, ?_⟩
                unfold keep
                rw [Bool.and_eq_true, Bool.or_eq_true, List.any_eq_true]
                refine ⟨by simpa using hji, .inr ⟨m, List.mem_range.2 hm1, ?_⟩⟩
                have hnb : (b.getD i 0).testBit m = false := by
                  by_cases hx : (b.getD i 0).testBit m = true
                  · rw [hanc m hx] at hm2; cases hm2
                  · simpa using hx
                rw [hm3, hnb]
                simpa using hmi
            refine hst j i hj li hneed'.2 _ _ _ (hI.done j hj ?_ hneed'.1) h3
            rw [getD_set_ne false (Ne.symm hji)] at hlj
            exact hlj
        · have hti : dstOf ops i ≠ some t := ht i li (by simp [hI.size, li])
          have hold := hI.old t fun j hj hlj => by
            by_cases hji : j = i
            · subst hji; exact hti
            · refine ht j hj ?_
              rw [getD_set_ne false (Ne.symm hji)]
              exact hlj
          rw [← hold]
          cases hdo : o.dst with
          | none => rfl
          | some d =>
            have hne : d ≠ t := fun e => hti (by simp [dstOf, ho, hdo, e])
            simp [Act.put, Array.getElem?_setIfInBounds, hne]
        · rw [← hI.tmps]; cases o.dst <;> simp [Act.put]
        · rw [← hI.dfs]; cases o.dst <;> rfl
        · intro j oj hoj hlj e he hbe
          by_cases hji : j = i
          · subst hji
            rw [ho] at hoj
            cases hoj
            exact getD_set_true (hready e he hbe)
          · rw [getD_set_ne false (Ne.symm hji)] at hlj
            exact getD_set_true (hI.closed j oj hoj hlj e he hbe)
        · have := count_lt ops.size i L li hI.size hun
          omega
  refine key _ _ _ _ ⟨h0, hR0 _, by simp, fun i hi hl _ => ?_, fun t _ => rfl, rfl, rfl, fun i o ho hl => ?_⟩ ?_
  · simp [hi] at hl
  · simp [size_lt ho] at hl
  · refine Nat.le_trans (List.length_filter_le _ _) ?_
    simp
/-- the same, as it is used: the lists written out by whoever calls, Φ knowing the frame. -/
theorem wp_region_by {id : Nat} {a0 : Act} {w0 : World} {Q : Exit → Act → World → Prop} (S : World → Prop) (R : World → World → Prop) (RK : Nat → World → World → Prop) (Φ : Act → Nat → Value → World → Prop) (b nd : Array Nat) (fin_ : Nat) (hm : P.follows .mixedOrders = true)
    (n : Nat) (hn : ops.size = n) (hok : ∀ m, a0.tmps.size = m → regOk ops b m = true) (hnd : ndOk ops b nd = true) (hR0 : ∀ w, R w w) (hRt : ∀ u v w, R u v → R v w → R u w) (hRK : ∀ k u v, k < n → RK k u v → R u v)
    (hst : ∀ i, i < n → ∀ k, k < n → ∀ q, keep ops b nd fin_ i k = q → q = true → ∀ v w w', Φ a0 i v w → RK k w w' → Φ a0 i v w') (h0 : S w0.drew)
    (hop : ∀ i, i < n → ∀ l, ancs ops b i = l → ∀ (vs : Nat → Value) w, S w → R w0.drew w → (∀ j, j < n → (nd.getD i 0).testBit j = true → Φ a0 j (vs j) w) → OpGoal P ops (Φ a0) S (RK i) a0.defers i (putAll a0 vs l) w)
    (hend : ∀ l, alls ops = l → ∀ (vs : Nat → Value) w, S w → R w0.drew w → (∀ i, i < n → fin_.testBit i = true → Φ a0 i (vs i) w) → Q .normal (putAll a0 vs l) w) : (Code.region id ops true).wp P Q a0 w0 := by
  subst hn
  refine wp_region_env S R RK (fun i v w => i < ops.size → Φ a0 i v w) b nd fin_ hm (hok _ rfl) hnd hR0 hRt hRK (fun i k hi hk hkp v w w' h hr _ => hst i hi k hk _ rfl hkp v w w' (h hi) hr) h0 (fun i hi vs w hS hR hp => ?_) (fun vs w hS hR hp => hend _ rfl vs w hS hR fun i hi hf => hp i hi hf hi)
  obtain ⟨o, od, ho, hod, h⟩ := hop i hi _ rfl vs w hS hR (fun j hj hb => hp j hj hb hj)
  exact ⟨o, od, ho, hod, fun K hK => h K fun v w' h1 h2 h3 => hK v w' (fun _ => h1) h2 h3⟩
/-- the same, all steps of one kind. -/
theorem wp_region_one {id : Nat} {a0 : Act} {w0 : World} {Q : Exit → Act → World → Prop} (S : World → Prop) (R : World → World → Prop) (Φ : Act → Nat → Value → World → Prop) (b nd : Array Nat) (fin_ : Nat) (hm : P.follows .mixedOrders = true)
    (n : Nat) (hn : ops.size = n) (hok : ∀ m, a0.tmps.size = m → regOk ops b m = true) (hnd : ndOk ops b nd = true) (hR0 : ∀ w, R w w) (hRt : ∀ u v w, R u v → R v w → R u w)
    (hst : ∀ i, i < n → ∀ v w w', Φ a0 i v w → R w w' → Φ a0 i v w') (h0 : S w0.drew)
    (hop : ∀ i, i < n → ∀ l, ancs ops b i = l → ∀ (vs : Nat → Value) w, S w → R w0.drew w → (∀ j, j < n → (nd.getD i 0).testBit j = true → Φ a0 j (vs j) w) → OpGoal P ops (Φ a0) S R a0.defers i (putAll a0 vs l) w)
    (hend : ∀ l, alls ops = l → ∀ (vs : Nat → Value) w, S w → R w0.drew w → (∀ i, i < n → fin_.testBit i = true → Φ a0 i (vs i) w) → Q .normal (putAll a0 vs l) w) : (Code.region id ops true).wp P Q a0 w0 :=
  wp_region_by S R (fun _ => R) Φ b nd fin_ hm n hn hok hnd hR0 hRt (fun k u v _ h => h) (fun i hi k _ q _ _ v w w' h hr => hst i hi v w w' h hr) h0 hop hend
end
end Go.Proofs.Ytfpocddpnoighaa.R

/- a region that draws its order and whose last operation, behind all others, writes what the others read. -/
namespace Go.Proofs.Ytfpocddpnoighaa.R
open Go.RowKit
set_option linter.unusedVariables false
set_option linter.unusedSimpArgs false

section
variable {P : Program} {ops : Array Oper}
def keepz (ops : Array Oper) (b nd : Array Nat) (fin i k : Nat) : Bool := keep ops b nd fin i k && !((b.getD i 0).testBit k)
structure InvZ (z : Nat) (P : Program) (ops : Array Oper) (Φ : Nat → Value → World → Prop) (S : World → Prop) (R : World → World → Prop) (nd : Array Nat) (fin : Nat) (a0 : Act) (w0 : World) (L : Array Bool) (a : Act) (w : World) : Prop where
  s : L.getD z false = false → S w
  r : R w0 w
  size : L.size = ops.size
  done : ∀ i, i < ops.size → L.getD i false = true → need ops nd fin L i → Φ i (slotOf ops i a) w
  old : ∀ t, (∀ i, i < ops.size → L.getD i false = true → dstOf ops i ≠ some t) → a.tmps[t]? = a0.tmps[t]?
  tmps : a.tmps.size = a0.tmps.size
  dfs : a.defers = a0.defers
  closed : Closed ops L

theorem wp_region_envz {id : Nat} {a0 : Act} {w0 : World} {Q : Exit → Act → World → Prop} (S : World → Prop) (R : World → World → Prop) (RK : Nat → World → World → Prop) (Φ : Nat → Value → World → Prop) (b nd : Array Nat) (fin_ z : Nat) (hz : ∀ i, i < ops.size → i ≠ z → (b.getD z 0).testBit i = true) (hm : P.follows .mixedOrders = true)
    (hok : regOk ops b a0.tmps.size = true) (hnd : ndOk ops b nd = true) (hR0 : ∀ w, R w w) (hRt : ∀ u v w, R u v → R v w → R u w) (hRK : ∀ k u v, k < ops.size → RK k u v → R u v)
    (hst : ∀ i k, i < ops.size → i ≠ z → k < ops.size → keepz ops b nd fin_ i k = true → ∀ v w w', Φ i v w → RK k w w' → Φ i v w') (h0 : S { w0 with drawn := w0.drawn + 1 })
    (hop : ∀ i, i < ops.size → ∀ (vs : Nat → Value) w, S w → R { w0 with drawn := w0.drawn + 1 } w → (∀ j, j < ops.size → (nd.getD i 0).testBit j = true → Φ j (vs j) w) → OpGoal P ops Φ (fun w => i ≠ z → S w) (RK i) a0.defers i (putAll a0 vs (ancs ops b i)) w)
    (hend : ∀ (vs : Nat → Value) w, R { w0 with drawn := w0.drawn + 1 } w → (∀ i, i < ops.size → fin_.testBit i = true → Φ i (vs i) w) → Q .normal (putAll a0 vs (alls ops)) w) : (Code.region id ops true).wp P Q a0 w0 := by
  simp only [regOk, Bool.and_eq_true] at hok
  obtain ⟨⟨⟨hb, hs⟩, hr⟩, hsel⟩ := hok
  have hrange : ∀ i t, dstOf ops i = some t → t < a0.tmps.size := by
    intro i t h
    have li : i < ops.size := by
      cases hx : ops[i]? with
      | none => simp [dstOf, hx] at h
      | some o => exact size_lt hx
    have := List.all_eq_true.1 hr i (List.mem_range.2 li)
    rw [h] at this
    simpa using this
  refine wp_region_any hm ?_
  have key : ∀ fuel (L : Array Bool) (a : Act) (w : World), InvZ z P ops Φ S R nd fin_ a0 { w0 with drawn := w0.drawn + 1 } L a w → ((List.range ops.size).filter fun i => !L.getD i false).length ≤ fuel → wpAny P .any ops Q fuel L a w := by
    intro fuel
    have fin : ∀ (L : Array Bool) (a : Act) (w : World), InvZ z P ops Φ S R nd fin_ a0 { w0 with drawn := w0.drawn + 1 } L a w → (∀ i, i < ops.size → L.getD i false = true) → Q .normal a w := by
      intro L a w hI hall
      have ha : a = putAll a0 (fun i => slotOf ops i a) (alls ops) := by
        have h1 : a.tmps = (putAll a0 (fun i => slotOf ops i a) (alls ops)).tmps := by
          apply Array.ext_getElem?
          intro t
          by_cases hw : ∃ i, dstOf ops i = some t
          · obtain ⟨i, hi⟩ := hw
            have ht := hrange i t hi
            have li : i < ops.size := by
              cases hx : ops[i]? with
              | none => simp [dstOf, hx] at hi
              | some o => exact size_lt hx
            rw [putAll_some a0 _ t i ht _ (mem_alls.2 ⟨li, hi⟩) (fun k hk => dst_uniq hs (mem_alls.1 hk).2 hi)]
            exact slot_eq hi (by rw [hI.tmps]; exact ht)
          · rw [putAll_none _ _ _ _ (fun j hj => hw ⟨j, (mem_alls.1 hj).2⟩)]
            exact hI.old t fun i _ _ hi => hw ⟨i, hi⟩
        have h2 : a.defers = (putAll a0 (fun i => slotOf ops i a) (alls ops)).defers := by rw [putAll_defers]; exact hI.dfs
        exact act_ext h1 h2
      rw [ha]
      exact hend _ w hI.r fun i hi hf => hI.done i hi (hall i hi) (.inl hf)
    have stuck : ∀ (L : Array Bool) (a : Act) (w : World), InvZ z P ops Φ S R nd fin_ a0 { w0 with drawn := w0.drawn + 1 } L a w → Region.ready .any ops L = [] → ∀ i, i < ops.size → L.getD i false = true := by
      intro L a w hI hre i
      induction i using Nat.strongRecOn with
      | _ i ih =>
        intro hi
        by_cases hl : L.getD i false = true
        · exact hl
        · exfalso
          have hmem : i ∈ Region.ready .any ops L := by
            rw [mem_ready]
            refine ⟨?_, _, Array.getElem?_eq_getElem hi, fun e he hbe => ?_⟩
            · rw [getD_ft L i (by rw [hI.size]; exact hi)]
              simpa using hl
            · have h := List.all_eq_true.1 hb i (List.mem_range.2 hi)
              rw [Array.getElem?_eq_getElem hi] at h
              simp only [Bool.and_eq_true, beq_iff_eq, List.all_eq_true] at h
              have h2 := h.2 e (by simpa using he)
              simp only [hbe, Bool.not_true, Bool.false_or, decide_eq_true_eq] at h2
              exact ih e.on h2 (by omega)
          rw [hre] at hmem
          cases hmem
    induction fuel with
    | zero =>
      intro L a w hI hcount
      have hall : ∀ i, i < ops.size → L.getD i false = true := by
        intro i hi
        by_cases hl : L.getD i false = true
        · exact hl
        · have : i ∈ (List.range ops.size).filter fun i => !L.getD i false := by
            rw [List.mem_filter]
            exact ⟨List.mem_range.2 hi, by simpa using hl⟩
          have := List.length_pos_of_mem this
          omega
      refine ⟨?_, fin L a w hI hall⟩
      rw [List.eq_nil_iff_forall_not_mem]
      intro i hi
      obtain ⟨hu, o, ho, _⟩ := mem_ready.1 hi
      have li := size_lt ho
      rw [getD_ft L i (by rw [hI.size]; exact li), hall i li] at hu
      cases hu
    | succ fuel ih =>
      intro L a w hI hcount
      refine ⟨fun hre => fin L a w hI (stuck L a w hI hre), fun i hi => ?_⟩
      obtain ⟨hu, o, ho, hready⟩ := mem_ready.1 hi
      have li := size_lt ho
      have hun : L.getD i false = false := by rw [← getD_ft L i (by rw [hI.size]; exact li)]; exact hu
      have hanc : ∀ j, (b.getD i 0).testBit j = true → L.getD j false = true := anc_listed hb hI.closed i i (Nat.le_refl _) o ho hready
      have hnot : ∀ j, (b.getD j 0).testBit i = true → L.getD j false = false := by
        intro j hj
        by_cases hl : L.getD j false = true
        · obtain ⟨oj, hoj⟩ : ∃ oj, ops[j]? = some oj := by
            by_cases hlt : j < ops.size
            · exact ⟨_, Array.getElem?_eq_getElem hlt⟩
            · have : L.getD j false = false := by simp [hI.size, hlt]
              rw [this] at hl; cases hl
          have := anc_listed hb hI.closed j j (Nat.le_refl _) oj hoj (hI.closed j oj hoj hl) i hj
          rw [hun] at this; cases this
        · simpa using hl
      have hzn : L.getD z false = false := by
        by_cases hiz : i = z
        · subst hiz; exact hun
        · exact hnot z (hz i li hiz)
      have hgoal := hop i li (fun j => slotOf ops j a) w (hI.s hzn) hI.r fun j hj hbj => by
        have hb2 : (b.getD i 0).testBit j = true := by
          have h := List.all_eq_true.1 hnd i (List.mem_range.2 li)
          rw [beq_iff_eq] at h
          rw [← h, Nat.testBit_and, Bool.and_eq_true] at hbj
          exact hbj.2
        exact hI.done j hj (hanc j hb2) (.inr ⟨i, li, hun, hbj⟩)
      generalize hA : putAll a0 (fun j => slotOf ops j a) (ancs ops b i) = A at hgoal
      have hAsz : A.tmps.size = a0.tmps.size := by rw [← hA, putAll_size]
      have hAd : A.defers = a0.defers := by rw [← hA, putAll_defers]
      have hslot : ∀ t, looks ops o t = true → A.tmps[t]? = a.tmps[t]? := by
        intro t hl
        by_cases hw : ∃ j, j < ops.size ∧ dstOf ops j = some t ∧ (b.getD i 0).testBit j = true
        · obtain ⟨j, hj, hd, hbj⟩ := hw
          have ht := hrange j t hd
          rw [← hA, putAll_some a0 _ t j ht _ (mem_ancs.2 ⟨hj, hbj, hd⟩) (fun k hk => dst_uniq hs (mem_ancs.1 hk).2.2 hd)]
          exact (slot_eq hd (by rw [hI.tmps]; exact ht)).symm
        · rw [← hA, putAll_none _ _ _ _ (fun j hj => hw ⟨j, (mem_ancs.1 hj).1, (mem_ancs.1 hj).2.2, (mem_ancs.1 hj).2.1⟩)]
          symm
          refine hI.old t fun j hj hlj hd => ?_
          by_cases hij : i = j
          · subst hij; rw [hun] at hlj; cases hlj
          · rcases look_order hs ho hd hl hij with h | h
            · exact hw ⟨j, hj, hd, h⟩
            · rw [hnot j h] at hlj; cases hlj
      have hev : ∀ x ∈ o.op.operands, A.eval x = a.eval x := by
        intro x hx
        cases x with
        | tmp t =>
          have hl : looks ops o t = true := by
            unfold looks
            rw [Bool.or_eq_true]
            left
            rw [Array.any_eq_true']
            exact ⟨_, hx, by simp⟩
          simp only [Act.eval, Array.getD_eq_getD_getElem?, hslot t hl]
        | _ => rfl
      have hwant : Region.wanted o (yielded ops A.tmps) = Region.wanted o (yielded ops a.tmps) := by
        unfold Region.wanted
        cases hg : o.guard with
        | none => rfl
        | some gw =>
          obtain ⟨g, want⟩ := gw
          simp only
          have hy : yielded ops A.tmps g = yielded ops a.tmps g := by
            unfold yielded
            cases hdg : (ops[g]?).bind (·.dst) with
            | none => rfl
            | some t =>
              have hl : looks ops o t = true := by
                unfold looks
                rw [Bool.or_eq_true]
                right
                simp [hg, dstOf, hdg]
              simp only [Option.bind_some, hslot t hl]
          rw [hy]
      rw [← hAd] at hgoal
      refine wpOp_env ho (Region.noSelect_spec hsel i o · · ho) hev hwant (fun d hd => ?_) (K := fun v w' => Φ i v w' ∧ (i ≠ z → S w') ∧ RK i w w') ?_ hgoal.run
      · rw [hAsz]
        exact hrange i d (by simp [dstOf, ho, hd])
      · rintro v w' ⟨h1, h2, h3⟩ u hcase
        have hsl : slotOf ops i (a.put o.dst u) = match o.dst with | some _ => u | none => undef := by
          unfold slotOf dstOf
          rw [ho]
          cases hdo : o.dst with
          | none => simp [hdo]
          | some d =>
            have := hrange i d (by simp [dstOf, ho, hdo])
            simp [hdo, Act.put, hI.tmps, this]
        have hother : ∀ j, j ≠ i → slotOf ops j (a.put o.dst u) = slotOf ops j a := by
          intro j hj
          cases hdj : dstOf ops j with
          | none => simp [slotOf, hdj]
          | some t =>
            cases hdo : o.dst with
            | none => rfl
            | some d =>
              have hne : d ≠ t := fun e => hj (dst_uniq hs hdj (by simp [dstOf, ho, hdo, e]))
              simp [slotOf, hdj, Act.put, Array.getElem?_setIfInBounds, hne]
        refine ih _ _ _ ⟨fun hzz => h2 (by rintro rfl; simp [hI.size, li] at hzz), hRt _ _ _ hI.r (hRK i _ _ li h3), by simpa using hI.size, fun j hj hlj hneed => ?_, fun t ht => ?_, ?_, ?_, ?_⟩ ?_
        · by_cases hji : j = i
          · subst hji
            rw [hsl]
            rcases hcase with ⟨hu1, hu2⟩ | ⟨hu1, hu2⟩
            · rw [hu1]
              simp only
              rw [← hu2]
              exact h1
            · cases hdo : o.dst with
              | none => exact absurd hdo hu1
              | some d => simp only; rw [hu2]; exact h1
          · rw [hother j hji]
            have hneed' : need ops nd fin_ L j ∧ keep ops b nd fin_ j i = true := by
              rcases hneed with hf | ⟨m, hm1, hm2, hm3⟩
              · exact ⟨.inl hf, by simp [keep, hf, hji]⟩
              · have hmi : m ≠ i := by
                  rintro rfl
                  simp [hI.size, li] at hm2
                rw [getD_set_ne false (Ne.symm hmi)] at hm2
                refine ⟨.inr ⟨m, hm1, hm2, hm3⟩, ?_⟩
                unfold keep
                rw [Bool.and_eq_true, Bool.or_eq_true, List.any_eq_true]
                refine ⟨by simpa using hji, .inr ⟨m, List.mem_range.2 hm1, ?_⟩⟩
                have hnb : (b.getD i 0).testBit m = false := by
                  by_cases hx : (b.getD i 0).testBit m = true
                  · rw [hanc m hx] at hm2; cases hm2
                  · simpa using hx
                rw [hm3, hnb]
                simpa using hmi
            rw [getD_set_ne false (Ne.symm hji)] at hlj
            refine hst j i hj (by rintro rfl; rw [hzn] at hlj; cases hlj) li (by unfold keepz; rw [hneed'.2, Bool.true_and, Bool.not_eq_true']; cases hbb : (b.getD j 0).testBit i with | false => rfl | true => rw [hnot j hbb] at hlj; cases hlj) _ _ _ (hI.done j hj hlj hneed'.1) h3
        · have hti : dstOf ops i ≠ some t := ht i li (by simp [hI.size, li])
          have hold := hI.old t fun j hj hlj => by
            by_cases hji : j = i
            · subst hji; exact hti
            · refine ht j hj ?_
              rw [getD_set_ne false (Ne.symm hji)]
              exact hlj
          rw [← hold]
          cases hdo : o.dst with
          | none => rfl
          | some d =>
            have hne : d ≠ t := fun e => hti (by simp [dstOf, ho, hdo, e])
            simp [Act.put, Array.getElem?_setIfInBounds, hne]
        · rw [← hI.tmps]; cases o.dst <;> simp [Act.put]
        · rw [← hI.dfs]; cases o.dst <;> rfl
        · intro j oj hoj hlj e he hbe
          by_cases hji : j = i
          · subst hji
            rw [ho] at hoj
            cases hoj
            exact getD_set_true (hready e he hbe)
          · rw [getD_set_ne false (Ne.symm hji)] at hlj
            exact getD_set_true (hI.closed j oj hoj hlj e he hbe)
        · have := count_lt ops.size i L li hI.size hun
          omega
  refine key _ _ _ _ ⟨fun _ => h0, hR0 _, by simp, fun i hi hl _ => ?_, fun t _ => rfl, rfl, rfl, fun i o ho hl => ?_⟩ ?_
  · simp [hi] at hl
  · simp [size_lt ho] at hl
  · refine Nat.le_trans (List.length_filter_le _ _) ?_
    simp
/-- the same, as it is used: the lists written out by whoever calls, Φ knowing the frame. -/
theorem wp_region_last {id : Nat} {a0 : Act} {w0 : World} {Q : Exit → Act → World → Prop} (S : World → Prop) (R : World → World → Prop) (RK : Nat → World → World → Prop) (Φ : Act → Nat → Value → World → Prop) (b nd : Array Nat) (fin_ z : Nat) (hm : P.follows .mixedOrders = true)
    (n : Nat) (hn : ops.size = n) (hz : (List.range n).all (fun i => i == z || (b.getD z 0).testBit i) = true) (hok : ∀ m, a0.tmps.size = m → regOk ops b m = true) (hnd : ndOk ops b nd = true) (hR0 : ∀ w, R w w) (hRt : ∀ u v w, R u v → R v w → R u w) (hRK : ∀ k u v, k < n → RK k u v → R u v)
    (hst : ∀ i, i < n → i ≠ z → ∀ k, k < n → ∀ q, keepz ops b nd fin_ i k = q → q = true → ∀ v w w', Φ a0 i v w → RK k w w' → Φ a0 i v w') (h0 : S w0.drew)
    (hop : ∀ i, i < n → ∀ l, ancs ops b i = l → ∀ (vs : Nat → Value) w, S w → R w0.drew w → (∀ j, j < n → (nd.getD i 0).testBit j = true → Φ a0 j (vs j) w) → OpGoal P ops (Φ a0) (fun w => i ≠ z → S w) (RK i) a0.defers i (putAll a0 vs l) w)
    (hend : ∀ l, alls ops = l → ∀ (vs : Nat → Value) w, R w0.drew w → (∀ i, i < n → fin_.testBit i = true → Φ a0 i (vs i) w) → Q .normal (putAll a0 vs l) w) : (Code.region id ops true).wp P Q a0 w0 := by
  subst hn
  refine wp_region_envz S R RK (fun i v w => i < ops.size → Φ a0 i v w) b nd fin_ z (fun i hi hne => by have := List.all_eq_true.1 hz i (List.mem_range.2 hi); simpa [hne] using this) hm (hok _ rfl) hnd hR0 hRt hRK (fun i k hi hiz hk hkp v w w' h hr _ => hst i hi hiz k hk _ rfl hkp v w w' (h hi) hr) h0 (fun i hi vs w hS hR hp => ?_) (fun vs w hR hp => hend _ rfl vs w hR fun i hi hf => hp i hi hf hi)
  obtain ⟨o, od, ho, hod, h⟩ := hop i hi _ rfl vs w hS hR (fun j hj hb => hp j hj hb hj)
  exact ⟨o, od, ho, hod, fun K hK => h K fun v w' h1 h2 h3 => hK v w' (fun _ => h1) h2 h3⟩
end
end Go.Proofs.Ytfpocddpnoighaa.R

/- a region that draws its order, in which two operations change what the others do not look at: what is so of the memory is said by which of the two have been done. -/
namespace Go.Proofs.Ytfpocddpnoighaa.R
open Go.RowKit
set_option linter.unusedVariables false
set_option linter.unusedSimpArgs false

section
variable {P : Program} {ops : Array Oper}
theorem rep_false (n x : Nat) : (Array.replicate n false).getD x false = false := by
  by_cases h : x < n <;> simp [h]
structure InvT (p q : Nat) (P : Program) (ops : Array Oper) (Φ : Nat → Value → World → Prop) (S : Bool → Bool → World → Prop) (R : World → World → Prop) (nd : Array Nat) (fin : Nat) (a0 : Act) (w0 : World) (L : Array Bool) (a : Act) (w : World) : Prop where
  s : S (L.getD p false) (L.getD q false) w
  r : R w0 w
  size : L.size = ops.size
  done : ∀ i, i < ops.size → L.getD i false = true → need ops nd fin L i → Φ i (slotOf ops i a) w
  old : ∀ t, (∀ i, i < ops.size → L.getD i false = true → dstOf ops i ≠ some t) → a.tmps[t]? = a0.tmps[t]?
  tmps : a.tmps.size = a0.tmps.size
  dfs : a.defers = a0.defers
  closed : Closed ops L

theorem wp_region_envt {id : Nat} {a0 : Act} {w0 : World} {Q : Exit → Act → World → Prop} (S : Bool → Bool → World → Prop) (R : World → World → Prop) (RK : Nat → World → World → Prop) (Φ : Nat → Value → World → Prop) (b nd : Array Nat) (fin_ p q : Nat) (hpl : p < ops.size) (hql : q < ops.size) (hm : P.follows .mixedOrders = true)
    (hok : regOk ops b a0.tmps.size = true) (hnd : ndOk ops b nd = true) (hR0 : ∀ w, R w w) (hRt : ∀ u v w, R u v → R v w → R u w) (hRK : ∀ k u v, k < ops.size → RK k u v → R u v)
    (hst : ∀ i k, i < ops.size → k < ops.size → keepz ops b nd fin_ i k = true → ∀ v w w', Φ i v w → RK k w w' → Φ i v w') (h0 : S false false { w0 with drawn := w0.drawn + 1 })
    (hop : ∀ i, i < ops.size → ∀ (vs : Nat → Value) w dp dq, (i = p → dp = false) → (i = q → dq = false) → S dp dq w → R { w0 with drawn := w0.drawn + 1 } w → (∀ j, j < ops.size → (nd.getD i 0).testBit j = true → Φ j (vs j) w) → OpGoal P ops Φ (S (dp || i == p) (dq || i == q)) (RK i) a0.defers i (putAll a0 vs (ancs ops b i)) w)
    (hend : ∀ (vs : Nat → Value) w, S true true w → R { w0 with drawn := w0.drawn + 1 } w → (∀ i, i < ops.size → fin_.testBit i = true → Φ i (vs i) w) → Q .normal (putAll a0 vs (alls ops)) w) : (Code.region id ops true).wp P Q a0 w0 := by
  simp only [regOk, Bool.and_eq_true] at hok
  obtain ⟨⟨⟨hb, hs⟩, hr⟩, hsel⟩ := hok
  have hrange : ∀ i t, dstOf ops i = some t → t < a0.tmps.size := by
    intro i t h
    have li : i < ops.size := by
      cases hx : ops[i]? with
      | none => simp [dstOf, hx] at h
      | some o => exact size_lt hx
    have := List.all_eq_true.1 hr i (List.mem_range.2 li)
    rw [h] at this
    simpa using this
  refine wp_region_any hm ?_
  have key : ∀ fuel (L : Array Bool) (a : Act) (w : World), InvT p q P ops Φ S R nd fin_ a0 { w0 with drawn := w0.drawn + 1 } L a w → ((List.range ops.size).filter fun i => !L.getD i false).length ≤ fuel → wpAny P .any ops Q fuel L a w := by
    intro fuel
    have fin : ∀ (L : Array Bool) (a : Act) (w : World), InvT p q P ops Φ S R nd fin_ a0 { w0 with drawn := w0.drawn + 1 } L a w → (∀ i, i < ops.size → L.getD i false = true) → Q .normal a w := by
      intro L a w hI hall
      have ha : a = putAll a0 (fun i => slotOf ops i a) (alls ops) := by
        have h1 : a.tmps = (putAll a0 (fun i => slotOf ops i a) (alls ops)).tmps := by
          apply Array.ext_getElem?
          intro t
          by_cases hw : ∃ i, dstOf ops i = some t
          · obtain ⟨i, hi⟩ := hw
            have ht := hrange i t hi
            have li : i < ops.size := by
              cases hx : ops[i]? with
              | none => simp [dstOf, hx] at hi
              | some o => exact size_lt hx
            rw [putAll_some a0 _ t i ht _ (mem_alls.2 ⟨li, hi⟩) (fun k hk => dst_uniq hs (mem_alls.1 hk).2 hi)]
            exact slot_eq hi (by rw [hI.tmps]; exact ht)
          · rw [putAll_none _ _ _ _ (fun j hj => hw ⟨j, (mem_alls.1 hj).2⟩)]
            exact hI.old t fun i _ _ hi => hw ⟨i, hi⟩
        have h2 : a.defers = (putAll a0 (fun i => slotOf ops i a) (alls ops)).defers := by rw [putAll_defers]; exact hI.dfs
        exact act_ext h1 h2
      rw [ha]
      have hs1 := hI.s
      rw [hall p hpl, hall q hql] at hs1
      exact hend _ w hs1 hI.r fun i hi hf => hI.done i hi (hall i hi) (.inl hf)
    have stuck : ∀ (L : Array Bool) (a : Act) (w : World), InvT p q P ops Φ S R nd fin_ a0 { w0 with drawn := w0.drawn + 1 } L a w → Region.ready .any ops L = [] → ∀ i, i < ops.size → L.getD i false = true := by
      intro L a w hI hre i
      induction i using Nat.strongRecOn with
      | _ i ih =>
        intro hi
        by_cases hl : L.getD i false = true
        · exact hl
        · exfalso
          have hmem : i ∈ Region.ready .any ops L := by
            rw [mem_ready]
            refine ⟨?_, _, Array.getElem?_eq_getElem hi, fun e he hbe => ?_⟩
            · rw [getD_ft L i (by rw [hI.size]; exact hi)]
              simpa using hl
            · have h := List.all_eq_true.1 hb i (List.mem_range.2 hi)
              rw [Array.getElem?_eq_getElem hi] at h
              simp only [Bool.and_eq_true, beq_iff_eq, List.all_eq_true] at h
              have h2 := h.2 e (by simpa using he)
              simp only [hbe, Bool.not_true, Bool.false_or, decide_eq_true_eq] at h2
              exact ih e.on h2 (by omega)
          rw [hre] at hmem
          cases hmem
    induction fuel with
    | zero =>
      intro L a w hI hcount
      have hall : ∀ i, i < ops.size → L.getD i false = true := by
        intro i hi
        by_cases hl : L.getD i false = true
        · exact hl
        · have : i ∈ (List.range ops.size).filter fun i => !L.getD i false := by
            rw [List.mem_filter]
            exact ⟨List.mem_range.2 hi, by simpa using hl⟩
          have := List.length_pos_of_mem this
          omega
      refine ⟨?_, fin L a w hI hall⟩
      rw [List.eq_nil_iff_forall_not_mem]
      intro i hi
      obtain ⟨hu, o, ho, _⟩ := mem_ready.1 hi
      have li := size_lt ho
      rw [getD_ft L i (by rw [hI.size]; exact li), hall i li] at hu
      cases hu
    | succ fuel ih =>
      intro L a w hI hcount
      refine ⟨fun hre => fin L a w hI (stuck L a w hI hre), fun i hi => ?_⟩
      obtain ⟨hu, o, ho, hready⟩ := mem_ready.1 hi
      have li := size_lt ho
      have hun : L.getD i false = false := by rw [← getD_ft L i (by rw [hI.size]; exact li)]; exact hu
      have hanc : ∀ j, (b.getD i 0).testBit j = true → L.getD j false = true := anc_listed hb hI.closed i i (Nat.le_refl _) o ho hready
      have hnot : ∀ j, (b.getD j 0).testBit i = true → L.getD j false = false := by
        intro j hj
        by_cases hl : L.getD j false = true
        · obtain ⟨oj, hoj⟩ : ∃ oj, ops[j]? = some oj := by
            by_cases hlt : j < ops.size
            · exact ⟨_, Array.getElem?_eq_getElem hlt⟩
            · have : L.getD j false = false := by simp [hI.size, hlt]
              rw [this] at hl; cases hl
          have := anc_listed hb hI.closed j j (Nat.le_refl _) oj hoj (hI.closed j oj hoj hl) i hj
          rw [hun] at this; cases this
        · simpa using hl
      have hgoal := hop i li (fun j => slotOf ops j a) w (L.getD p false) (L.getD q false) (by rintro rfl; exact hun) (by rintro rfl; exact hun) hI.s hI.r fun j hj hbj => by
        have hb2 : (b.getD i 0).testBit j = true := by
          have h := List.all_eq_true.1 hnd i (List.mem_range.2 li)
          rw [beq_iff_eq] at h
          rw [← h, Nat.testBit_and, Bool.and_eq_true] at hbj
          exact hbj.2
        exact hI.done j hj (hanc j hb2) (.inr ⟨i, li, hun, hbj⟩)
      generalize hA : putAll a0 (fun j => slotOf ops j a) (ancs ops b i) = A at hgoal
      have hAsz : A.tmps.size = a0.tmps.size := by rw [← hA, putAll_size]
      have hAd : A.defers = a0.defers := by rw [← hA, putAll_defers]
      have hslot : ∀ t, looks ops o t = true → A.tmps[t]? = a.tmps[t]? := by
        intro t hl
        by_cases hw : ∃ j, j < ops.size ∧ dstOf ops j = some t ∧ (b.getD i 0).testBit j = true
        · obtain ⟨j, hj, hd, hbj⟩ := hw
          have ht := hrange j t hd
          rw [← hA, putAll_some a0 _ t j ht _ (mem_ancs.2 ⟨hj, hbj, hd⟩) (fun k hk => dst_uniq hs (mem_ancs.1 hk).2.2 hd)]
          exact (slot_eq hd (by rw [hI.tmps]; exact ht)).symm
        · rw [← hA, putAll_none _ _ _ _ (fun j hj => hw ⟨j, (mem_ancs.1 hj).1, (mem_ancs.1 hj).2.2, (mem_ancs.1 hj).2.1⟩)]
          symm
          refine hI.old t fun j hj hlj hd => ?_
          by_cases hij : i = j
          · subst hij; rw [hun] at hlj; cases hlj
          · rcases look_order hs ho hd hl hij with h | h
            · exact hw ⟨j, hj, hd, h⟩
            · rw [hnot j h] at hlj; cases hlj
      have hev : ∀ x ∈ o.op.operands, A.eval x = a.eval x := by
        intro x hx
        cases x with
        | tmp t =>
          have hl : looks ops o t = true := by
            unfold looks
            rw [Bool.or_eq_true]
            left
            rw [Array.any_eq_true']
            exact ⟨_, hx, by simp⟩
          simp only [Act.eval, Array.getD_eq_getD_getElem?, hslot t hl]
        | _ => rfl
      have hwant : Region.wanted o (yielded ops A.tmps) = Region.wanted o (yielded ops a.tmps) := by
        unfold Region.wanted
        cases hg : o.guard with
        | none => rfl
        | some gw =>
          obtain ⟨g, want⟩ := gw
          simp only
          have hy : yielded ops A.tmps g = yielded ops a.tmps g := by
            unfold yielded
            cases hdg : (ops[g]?).bind (·.dst) with
            | none => rfl
            | some t =>
              have hl : looks ops o t = true := by
                unfold looks
                rw [Bool.or_eq_true]
                right
                simp [hg, dstOf, hdg]
              simp only [Option.bind_some, hslot t hl]
          rw [hy]
      rw [← hAd] at hgoal
      refine wpOp_env ho (Region.noSelect_spec hsel i o · · ho) hev hwant (fun d hd => ?_) (K := fun v w' => Φ i v w' ∧ S (L.getD p false || i == p) (L.getD q false || i == q) w' ∧ RK i w w') ?_ hgoal.run
      · rw [hAsz]
        exact hrange i d (by simp [dstOf, ho, hd])
      · rintro v w' ⟨h1, h2, h3⟩ u hcase
        have hsl : slotOf ops i (a.put o.dst u) = match o.dst with | some _ => u | none => undef := by
          unfold slotOf dstOf
          rw [ho]
          cases hdo : o.dst with
          | none => simp [hdo]
          | some d =>
            have := hrange i d (by simp [dstOf, ho, hdo])
            simp [hdo, Act.put, hI.tmps, this]
        have hother : ∀ j, j ≠ i → slotOf ops j (a.put o.dst u) = slotOf ops j a := by
          intro j hj
          cases hdj : dstOf ops j with
          | none => simp [slotOf, hdj]
          | some t =>
            cases hdo : o.dst with
            | none => rfl
            | some d =>
              have hne : d ≠ t := fun e => hj (dst_uniq hs hdj (by simp [dstOf, ho, hdo, e]))
              simp [slotOf, hdj, Act.put, Array.getElem?_setIfInBounds, hne]
        have hset : ∀ x, (L.setIfInBounds i true).getD x false = (L.getD x false || i == x) := by
          intro x
          by_cases hx : i = x
          · subst hx; simp [hI.size, li]
          · rw [getD_set_ne false hx]; simp [hx]
        refine ih _ _ _ ⟨by rw [hset p, hset q]; exact h2, hRt _ _ _ hI.r (hRK i _ _ li h3), by simpa using hI.size, fun j hj hlj hneed => ?_, fun t ht => ?_, ?_, ?_, ?_⟩ ?_
        · by_cases hji : j = i
          · subst hji
            rw [hsl]
            rcases hcase with ⟨hu1, hu2⟩ | ⟨hu1, hu2⟩
            · rw [hu1]
              simp only
              rw [← hu2]
              exact h1
            · cases hdo : o.dst with
              | none => exact absurd hdo hu1
              | some d => simp only; rw [hu2]; exact h1
          · rw [hother j hji]
            have hneed' : need ops nd fin_ L j ∧ keep ops b nd fin_ j i = true := by
              rcases hneed with hf | ⟨m, hm1, hm2, hm3⟩
              · exact ⟨.inl hf, by simp [keep, hf, hji]⟩
              · have hmi : m ≠ i := by
                  rintro rfl
                  simp [hI.size, li] at hm2
                rw [getD_set_ne false (Ne.symm hmi)] at hm2
                refine ⟨.inr ⟨m, hm1, hm2, hm3⟩, ?_⟩
                unfold keep
                rw [Bool.and_eq_true, Bool.or_eq_true, List.any_eq_true]
                refine ⟨by simpa using hji, .inr ⟨m, List.mem_range.2 hm1, ?_⟩⟩
                have hnb : (b.getD i 0).testBit m = false := by
                  by_cases hx : (b.getD i 0).testBit m = true
                  · rw [hanc m hx] at hm2; cases hm2
                  · simpa using hx
                rw [hm3, hnb]
                simpa using hmi
            rw [getD_set_ne false (Ne.symm hji)] at hlj
            refine hst j i hj li (by unfold keepz; rw [hneed'.2, Bool.true_and, Bool.not_eq_true']; cases hbb : (b.getD j 0).testBit i with | false => rfl | true => rw [hnot j hbb] at hlj; cases hlj) _ _ _ (hI.done j hj hlj hneed'.1) h3
        · have hti : dstOf ops i ≠ some t := ht i li (by simp [hI.size, li])
          have hold := hI.old t fun j hj hlj => by
            by_cases hji : j = i
            · subst hji; exact hti
            · refine ht j hj ?_
              rw [getD_set_ne false (Ne.symm hji)]
              exact hlj
          rw [← hold]
          cases hdo : o.dst with
          | none => rfl
          | some d =>
            have hne : d ≠ t := fun e => hti (by simp [dstOf, ho, hdo, e])
            simp [Act.put, Array.getElem?_setIfInBounds, hne]
        · rw [← hI.tmps]; cases o.dst <;> simp [Act.put]
        · rw [← hI.dfs]; cases o.dst <;> rfl
        · intro j oj hoj hlj e he hbe
          by_cases hji : j = i
          · subst hji
            rw [ho] at hoj
            cases hoj
            exact getD_set_true (hready e he hbe)
          · rw [getD_set_ne false (Ne.symm hji)] at hlj
            exact getD_set_true (hI.closed j oj hoj hlj e he hbe)
        · have := count_lt ops.size i L li hI.size hun
          omega
  refine key _ _ _ _ ⟨(by rw [rep_false, rep_false]; exact h0), hR0 _, by simp, fun i hi hl _ => ?_, fun t _ => rfl, rfl, rfl, fun i o ho hl => ?_⟩ ?_
  · simp [hi] at hl
  · simp [size_lt ho] at hl
  · refine Nat.le_trans (List.length_filter_le _ _) ?_
    simp
/-- the same, as it is used: the lists written out by whoever calls, Φ knowing the frame. -/
theorem wp_region_two {id : Nat} {a0 : Act} {w0 : World} {Q : Exit → Act → World → Prop} (S : Bool → Bool → World → Prop) (R : World → World → Prop) (RK : Nat → World → World → Prop) (Φ : Act → Nat → Value → World → Prop) (b nd : Array Nat) (fin_ p q : Nat) (hm : P.follows .mixedOrders = true)
    (n : Nat) (hn : ops.size = n) (hpl : p < n) (hql : q < n) (hok : ∀ m, a0.tmps.size = m → regOk ops b m = true) (hnd : ndOk ops b nd = true) (hR0 : ∀ w, R w w) (hRt : ∀ u v w, R u v → R v w → R u w) (hRK : ∀ k u v, k < n → RK k u v → R u v)
    (hst : ∀ i, i < n → ∀ k, k < n → ∀ y, keepz ops b nd fin_ i k = y → y = true → ∀ v w w', Φ a0 i v w → RK k w w' → Φ a0 i v w') (h0 : S false false w0.drew)
    (hop : ∀ i, i < n → ∀ l, ancs ops b i = l → ∀ (vs : Nat → Value) w dp dq, (i = p → dp = false) → (i = q → dq = false) → S dp dq w → R w0.drew w → (∀ j, j < n → (nd.getD i 0).testBit j = true → Φ a0 j (vs j) w) → OpGoal P ops (Φ a0) (S (dp || i == p) (dq || i == q)) (RK i) a0.defers i (putAll a0 vs l) w)
    (hend : ∀ l, alls ops = l → ∀ (vs : Nat → Value) w, S true true w → R w0.drew w → (∀ i, i < n → fin_.testBit i = true → Φ a0 i (vs i) w) → Q .normal (putAll a0 vs l) w) : (Code.region id ops true).wp P Q a0 w0 := by
  subst hn
  refine wp_region_envt S R RK (fun i v w => i < ops.size → Φ a0 i v w) b nd fin_ p q hpl hql hm (hok _ rfl) hnd hR0 hRt hRK (fun i k hi hk hkp v w w' h hr _ => hst i hi k hk _ rfl hkp v w w' (h hi) hr) h0 (fun i hi vs w dp dq e1 e2 hS hR hp => ?_) (fun vs w hS hR hp => hend _ rfl vs w hS hR fun i hi hf => hp i hi hf hi)
  obtain ⟨o, od, ho, hod, h⟩ := hop i hi _ rfl vs w dp dq e1 e2 hS hR (fun j hj hb => hp j hj hb hj)
  exact ⟨o, od, ho, hod, fun K hK => h K fun v w' h1 h2 h3 => hK v w' (fun _ => h1) h2 h3⟩
end
end Go.Proofs.Ytfpocddpnoighaa.R

/- a region that draws its order, in which some operations change memory: what is so of the memory is said by which operations have been done. -/
namespace Go.Proofs.Ytfpocddpnoighaa.R
open Go.RowKit
set_option linter.unusedVariables false
set_option linter.unusedSimpArgs false

section
variable {P : Program} {ops : Array Oper}
structure InvD (P : Program) (ops : Array Oper) (Φ : Nat → Value → World → Prop) (S : (Nat → Bool) → World → Prop) (R : World → World → Prop) (nd : Array Nat) (fin : Nat) (a0 : Act) (w0 : World) (L : Array Bool) (a : Act) (w : World) : Prop where
  s : S (fun j => L.getD j false) w
  r : R w0 w
  size : L.size = ops.size
  done : ∀ i, i < ops.size → L.getD i false = true → need ops nd fin L i → Φ i (slotOf ops i a) w
  old : ∀ t, (∀ i, i < ops.size → L.getD i false = true → dstOf ops i ≠ some t) → a.tmps[t]? = a0.tmps[t]?
  tmps : a.tmps.size = a0.tmps.size
  dfs : a.defers = a0.defers
  closed : Closed ops L

theorem wp_region_envd {id : Nat} {a0 : Act} {w0 : World} {Q : Exit → Act → World → Prop} (S : (Nat → Bool) → World → Prop) (R : World → World → Prop) (RK : Nat → World → World → Prop) (Φ : Nat → Value → World → Prop) (b nd : Array Nat) (fin_ : Nat) (hm : P.follows .mixedOrders = true)
    (hok : regOk ops b a0.tmps.size = true) (hnd : ndOk ops b nd = true) (hR0 : ∀ w, R w w) (hRt : ∀ u v w, R u v → R v w → R u w) (hRK : ∀ k u v, k < ops.size → RK k u v → R u v)
    (hst : ∀ i k, i < ops.size → k < ops.size → keepz ops b nd fin_ i k = true → ∀ v w w', Φ i v w → RK k w w' → Φ i v w') (h0 : S (fun _ => false) { w0 with drawn := w0.drawn + 1 })
    (hop : ∀ i, i < ops.size → ∀ (vs : Nat → Value) w (dn : Nat → Bool), dn i = false → (∀ j, (b.getD i 0).testBit j = true → dn j = true) → (∀ j, (b.getD j 0).testBit i = true → dn j = false) → S dn w → R { w0 with drawn := w0.drawn + 1 } w → (∀ j, j < ops.size → (nd.getD i 0).testBit j = true → Φ j (vs j) w) → OpGoal P ops Φ (S (fun j => dn j || i == j)) (RK i) a0.defers i (putAll a0 vs (ancs ops b i)) w)
    (hend : ∀ (vs : Nat → Value) w (dn : Nat → Bool), (∀ j, j < ops.size → dn j = true) → S dn w → R { w0 with drawn := w0.drawn + 1 } w → (∀ i, i < ops.size → fin_.testBit i = true → Φ i (vs i) w) → Q .normal (putAll a0 vs (alls ops)) w) : (Code.region id ops true).wp P Q a0 w0 := by
  simp only [regOk, Bool.and_eq_true] at hok
  obtain ⟨⟨⟨hb, hs⟩, hr⟩, hsel⟩ := hok
  have hrange : ∀ i t, dstOf ops i = some t → t < a0.tmps.size := by
    intro i t h
    have li : i < ops.size := by
      cases hx : ops[i]? with
      | none => simp [dstOf, hx] at h
      | some o => exact size_lt hx
    have := List.all_eq_true.1 hr i (List.mem_range.2 li)
    rw [h] at this
    simpa using this
  refine wp_region_any hm ?_
  have key : ∀ fuel (L : Array Bool) (a : Act) (w : World), InvD P ops Φ S R nd fin_ a0 { w0 with drawn := w0.drawn + 1 } L a w → ((List.range ops.size).filter fun i => !L.getD i false).length ≤ fuel → wpAny P .any ops Q fuel L a w := by
    intro fuel
    have fin : ∀ (L : Array Bool) (a : Act) (w : World), InvD P ops Φ S R nd fin_ a0 { w0 with drawn := w0.drawn + 1 } L a w → (∀ i, i < ops.size → L.getD i false = true) → Q .normal a w := by
      intro L a w hI hall
      have ha : a = putAll a0 (fun i => slotOf ops i a) (alls ops) := by
        have h1 : a.tmps = (putAll a0 (fun i => slotOf ops i a) (alls ops)).tmps := by
          apply Array.ext_getElem?
          intro t
          by_cases hw : ∃ i, dstOf ops i = some t
          · obtain ⟨i, hi⟩ := hw
            have ht := hrange i t hi
            have li : i < ops.size := by
              cases hx : ops[i]? with
              | none => simp [dstOf, hx] at hi
              | some o => exact size_lt hx
            rw [putAll_some a0 _ t i ht _ (mem_alls.2 ⟨li, hi⟩) (fun k hk => dst_uniq hs (mem_alls.1 hk).2 hi)]
            exact slot_eq hi (by rw [hI.tmps]; exact ht)
          · rw [putAll_none _ _ _ _ (fun j hj => hw ⟨j, (mem_alls.1 hj).2⟩)]
            exact hI.old t fun i _ _ hi => hw ⟨i, hi⟩
        have h2 : a.defers = (putAll a0 (fun i => slotOf ops i a) (alls ops)).defers := by rw [putAll_defers]; exact hI.dfs
        exact act_ext h1 h2
      rw [ha]
      exact hend _ w (fun j => L.getD j false) (fun j hj => hall j hj) hI.s hI.r fun i hi hf => hI.done i hi (hall i hi) (.inl hf)
    have stuck : ∀ (L : Array Bool) (a : Act) (w : World), InvD P ops Φ S R nd fin_ a0 { w0 with drawn := w0.drawn + 1 } L a w → Region.ready .any ops L = [] → ∀ i, i < ops.size → L.getD i false = true := by
      intro L a w hI hre i
      induction i using Nat.strongRecOn with
      | _ i ih =>
        intro hi
        by_cases hl : L.getD i false = true
        · exact hl
        · exfalso
          have hmem : i ∈ Region.ready .any ops L := by
            rw [mem_ready]
            refine ⟨?_, _, Array.getElem?_eq_getElem hi, fun e he hbe => ?_⟩
            · rw [getD_ft L i (by rw [hI.size]; exact hi)]
              simpa using hl
            · have h := List.all_eq_true.1 hb i (List.mem_range.2 hi)
              rw [Array.getElem?_eq_getElem hi] at h
              simp only [Bool.and_eq_true, beq_iff_eq, List.all_eq_true] at h
              have h2 := h.2 e (by simpa using he)
              simp only [hbe, Bool.not_true, Bool.false_or, decide_eq_true_eq] at h2
              exact ih e.on h2 (by omega)
          rw [hre] at hmem
          cases hmem
    induction fuel with
    | zero =>
      intro L a w hI hcount
      have hall : ∀ i, i < ops.size → L.getD i false = true := by
        intro i hi
        by_cases hl : L.getD i false = true
        · exact hl
        · have : i ∈ (List.range ops.size).filter fun i => !L.getD i false := by
            rw [List.mem_filter]
            exact ⟨List.mem_range.2 hi, by simpa using hl⟩
          have := List.length_pos_of_mem this
          omega
      refine ⟨?_, fin L a w hI hall⟩
      rw [List.eq_nil_iff_forall_not_mem]
      intro i hi
      obtain ⟨hu, o, ho, _⟩ := mem_ready.1 hi
      have li := size_lt ho
      rw [getD_ft L i (by rw [hI.size]; exact li), hall i li] at hu
      cases hu
    | succ fuel ih =>
      intro L a w hI hcount
      refine ⟨fun hre => fin L a w hI (stuck L a w hI hre), fun i hi => ?_⟩
      obtain ⟨hu, o, ho, hready⟩ := mem_ready.1 hi
      have li := size_lt ho
      have hun : L.getD i false = false := by rw [← getD_ft L i (by rw [hI.size]; exact li)]; exact hu
      have hanc : ∀ j, (b.getD i 0).testBit j = true → L.getD j false = true := anc_listed hb hI.closed i i (Nat.le_refl _) o ho hready
      have hnot : ∀ j, (b.getD j 0).testBit i = true → L.getD j false = false := by
        intro j hj
        by_cases hl : L.getD j false = true
        · obtain ⟨oj, hoj⟩ : ∃ oj, ops[j]? = some oj := by
            by_cases hlt : j < ops.size
            · exact ⟨_, Array.getElem?_eq_getElem hlt⟩
            · have : L.getD j false = false := by simp [hI.size, hlt]
              rw [this] at hl; cases hl
          have := anc_listed hb hI.closed j j (Nat.le_refl _) oj hoj (hI.closed j oj hoj hl) i hj
          rw [hun] at this; cases this
        · simpa using hl
      have hgoal := hop i li (fun j => slotOf ops j a) w (fun j => L.getD j false) hun hanc hnot hI.s hI.r fun j hj hbj => by
        have hb2 : (b.getD i 0).testBit j = true := by
          have h := List.all_eq_true.1 hnd i (List.mem_range.2 li)
          rw [beq_iff_eq] at h
          rw [← h, Nat.testBit_and, Bool.and_eq_true] at hbj
          exact hbj.2
        exact hI.done j hj (hanc j hb2) (.inr ⟨i, li, hun, hbj⟩)
      generalize hA : putAll a0 (fun j => slotOf ops j a) (ancs ops b i) = A at hgoal
      have hAsz : A.tmps.size = a0.tmps.size := by rw [← hA, putAll_size]
      have hAd : A.defers = a0.defers := by rw [← hA, putAll_defers]
      have hslot : ∀ t, looks ops o t = true → A.tmps[t]? = a.tmps[t]? := by
        intro t hl
        by_cases hw : ∃ j, j < ops.size ∧ dstOf ops j = some t ∧ (b.getD i 0).testBit j = true
        · obtain ⟨j, hj, hd, hbj⟩ := hw
          have ht := hrange j t hd
          rw [← hA, putAll_some a0 _ t j ht _ (mem_ancs.2 ⟨hj, hbj, hd⟩) (fun k hk => dst_uniq hs (mem_ancs.1 hk).2.2 hd)]
          exact (slot_eq hd (by rw [hI.tmps]; exact ht)).symm
        · rw [← hA, putAll_none _ _ _ _ (fun j hj => hw ⟨j, (mem_ancs.1 hj).1, (mem_ancs.1 hj).2.2, (mem_ancs.1 hj).2.1⟩)]
          symm
          refine hI.old t fun j hj hlj hd => ?_
          by_cases hij : i = j
          · subst hij; rw [hun] at hlj; cases hlj
          · rcases look_order hs ho hd hl hij with h | h
            · exact hw ⟨j, hj, hd, h⟩
            · rw [hnot j h] at hlj; cases hlj
      have hev : ∀ x ∈ o.op.operands, A.eval x = a.eval x := by
        intro x hx
        cases x with
        | tmp t =>
          have hl : looks ops o t = true := by
            unfold looks
            rw [Bool.or_eq_true]
            left
            rw [Array.any_eq_true']
            exact ⟨_, hx, by simp⟩
          simp only [Act.eval, Array.getD_eq_getD_getElem?, hslot t hl]
        | _ => rfl
      have hwant : Region.wanted o (yielded ops A.tmps) = Region.wanted o (yielded ops a.tmps) := by
        unfold Region.wanted
        cases hg : o.guard with
        | none => rfl
        | some gw =>
          obtain ⟨g, want⟩ := gw
          simp only
          have hy : yielded ops A.tmps g = yielded ops a.tmps g := by
            unfold yielded
            cases hdg : (ops[g]?).bind (·.dst) with
            | none => rfl
            | some t =>
              have hl : looks ops o t = true := by
                unfold looks
                rw [Bool.or_eq_true]
                right
                simp [hg, dstOf, hdg]
              simp only [Option.bind_some, hslot t hl]
          rw [hy]
      rw [← hAd] at hgoal
      refine wpOp_env ho (Region.noSelect_spec hsel i o · · ho) hev hwant (fun d hd => ?_) (K := fun v w' => Φ i v w' ∧ S (fun j => L.getD j false || i == j) w' ∧ RK i w w') ?_ hgoal.run
      · rw [hAsz]
        exact hrange i d (by simp [dstOf, ho, hd])
      · rintro v w' ⟨h1, h2, h3⟩ u hcase
        have hsl : slotOf ops i (a.put o.dst u) = match o.dst with | some _ => u | none => undef := by
          unfold slotOf dstOf
          rw [ho]
          cases hdo : o.dst with
          | none => simp [hdo]
          | some d =>
            have := hrange i d (by simp [dstOf, ho, hdo])
            simp [hdo, Act.put, hI.tmps, this]
        have hother : ∀ j, j ≠ i → slotOf ops j (a.put o.dst u) = slotOf ops j a := by
          intro j hj
          cases hdj : dstOf ops j with
          | none => simp [slotOf, hdj]
          | some t =>
            cases hdo : o.dst with
            | none => rfl
            | some d =>
              have hne : d ≠ t := fun e => hj (dst_uniq hs hdj (by simp [dstOf, ho, hdo, e]))
              simp [slotOf, hdj, Act.put, Array.getElem?_setIfInBounds, hne]
        have hset : ∀ x, (L.setIfInBounds i true).getD x false = (L.getD x false || i == x) := by
          intro x
          by_cases hx : i = x
          · subst hx; simp [hI.size, li]
          · rw [getD_set_ne false hx]; simp [hx]
        refine ih _ _ _ ⟨by rw [funext hset]; exact h2, hRt _ _ _ hI.r (hRK i _ _ li h3), by simpa using hI.size, fun j hj hlj hneed => ?_, fun t ht => ?_, ?_, ?_, ?_⟩ ?_
        · by_cases hji : j = i
          · subst hji
            rw [hsl]
            rcases hcase with ⟨hu1, hu2⟩ | ⟨hu1, hu2⟩
            · rw [hu1]
              simp only
              rw [← hu2]
              exact h1
            · cases hdo : o.dst with
              | none => exact absurd hdo hu1
              | some d => simp only; rw [hu2]; exact h1
          · rw [hother j hji]
            have hneed' : need ops nd fin_ L j ∧ keep ops b nd fin_ j i = true := by
              rcases hneed with hf | ⟨m, hm1, hm2, hm3⟩
              · exact ⟨.inl hf, by simp [keep, hf, hji]⟩
              · have hmi : m ≠ i := by
                  rintro rfl
                  simp [hI.size, li] at hm2
                rw [getD_set_ne false (Ne.symm hmi)] at hm2
                refine ⟨.inr ⟨m, hm1, hm2, hm3⟩, ?_⟩
                unfold keep
                rw [Bool.and_eq_true, Bool.or_eq_true, List.any_eq_true]
                refine ⟨by simpa using hji, .inr ⟨m, List.mem_range.2 hm1, ?_⟩⟩
                have hnb : (b.getD i 0).testBit m = false := by
                  by_cases hx : (b.getD i 0).testBit m = true
                  · rw [hanc m hx] at hm2; cases hm2
                  · simpa using hx
                rw [hm3, hnb]
                simpa using hmi
            rw [getD_set_ne false (Ne.symm hji)] at hlj
            refine hst j i hj li (by unfold keepz; rw [hneed'.2, Bool.true_and, Bool.not_eq_true']; cases hbb : (b.getD j 0).testBit i with | false => rfl | true => rw [hnot j hbb] at hlj; cases hlj) _ _ _ (hI.done j hj hlj hneed'.1) h3
        · have hti : dstOf ops i ≠ some t := ht i li (by simp [hI.size, li])
          have hold := hI.old t fun j hj hlj => by
            by_cases hji : j = i
            · subst hji; exact hti
            · refine ht j hj ?_
              rw [getD_set_ne false (Ne.symm hji)]
              exact hlj
          rw [← hold]
          cases hdo : o.dst with
          | none => rfl
          | some d =>
            have hne : d ≠ t := fun e => hti (by simp [dstOf, ho, hdo, e])
            simp [Act.put, Array.getElem?_setIfInBounds, hne]
        · rw [← hI.tmps]; cases o.dst <;> simp [Act.put]
        · rw [← hI.dfs]; cases o.dst <;> rfl
        · intro j oj hoj hlj e he hbe
          by_cases hji : j = i
          · subst hji
            rw [ho] at hoj
            cases hoj
            exact getD_set_true (hready e he hbe)
          · rw [getD_set_ne false (Ne.symm hji)] at hlj
            exact getD_set_true (hI.closed j oj hoj hlj e he hbe)
        · have := count_lt ops.size i L li hI.size hun
          omega
  refine key _ _ _ _ ⟨(by rw [show (fun j => (Array.replicate ops.size false).getD j false) = fun _ => false from funext fun j => rep_false _ j]; exact h0), hR0 _, by simp, fun i hi hl _ => ?_, fun t _ => rfl, rfl, rfl, fun i o ho hl => ?_⟩ ?_
  · simp [hi] at hl
  · simp [size_lt ho] at hl
  · refine Nat.le_trans (List.length_filter_le _ _) ?_
    simp
/-- the same, as it is used: the lists written out by whoever calls, Φ knowing the frame. -/
theorem wp_region_done {id : Nat} {a0 : Act} {w0 : World} {Q : Exit → Act → World → Prop} (S : (Nat → Bool) → World → Prop) (R : World → World → Prop) (RK : Nat → World → World → Prop) (Φ : Act → Nat → Value → World → Prop) (b nd : Array Nat) (fin_ : Nat) (hm : P.follows .mixedOrders = true)
    (n : Nat) (hn : ops.size = n) (hok : ∀ m, a0.tmps.size = m → regOk ops b m = true) (hnd : ndOk ops b nd = true) (hR0 : ∀ w, R w w) (hRt : ∀ u v w, R u v → R v w → R u w) (hRK : ∀ k u v, k < n → RK k u v → R u v)
    (hst : ∀ i, i < n → ∀ k, k < n → ∀ y, keepz ops b nd fin_ i k = y → y = true → ∀ v w w', Φ a0 i v w → RK k w w' → Φ a0 i v w') (h0 : S (fun _ => false) w0.drew)
    (hop : ∀ i, i < n → ∀ l, ancs ops b i = l → ∀ (vs : Nat → Value) w (dn : Nat → Bool), dn i = false → (∀ j, (b.getD i 0).testBit j = true → dn j = true) → (∀ j, (b.getD j 0).testBit i = true → dn j = false) → S dn w → R w0.drew w → (∀ j, j < n → (nd.getD i 0).testBit j = true → Φ a0 j (vs j) w) → OpGoal P ops (Φ a0) (S (fun j => dn j || i == j)) (RK i) a0.defers i (putAll a0 vs l) w)
    (hend : ∀ l, alls ops = l → ∀ (vs : Nat → Value) w (dn : Nat → Bool), (∀ j, j < ops.size → dn j = true) → S dn w → R w0.drew w → (∀ i, i < n → fin_.testBit i = true → Φ a0 i (vs i) w) → Q .normal (putAll a0 vs l) w) : (Code.region id ops true).wp P Q a0 w0 := by
  subst hn
  refine wp_region_envd S R RK (fun i v w => i < ops.size → Φ a0 i v w) b nd fin_ hm (hok _ rfl) hnd hR0 hRt hRK (fun i k hi hk hkp v w w' h hr _ => hst i hi k hk _ rfl hkp v w w' (h hi) hr) h0 (fun i hi vs w dn e1 e2 e3 hS hR hp => ?_) (fun vs w dn hd hS hR hp => hend _ rfl vs w dn hd hS hR fun i hi hf => hp i hi hf hi)
  obtain ⟨o, od, ho, hod, h⟩ := hop i hi _ rfl vs w dn e1 e2 e3 hS hR (fun j hj hb => hp j hj hb hj)
  exact ⟨o, od, ho, hod, fun K hK => h K fun v w' h1 h2 h3 => hK v w' (fun _ => h1) h2 h3⟩
theorem OpGoal.imp {Φ : Nat → Value → World → Prop} {S1 S2 : World → Prop} {R : World → World → Prop} {dfs : List Deferred} {i : Nat} {A : Act} {w : World} (hS : ∀ W, S1 W → S2 W) (h : OpGoal P ops Φ S1 R dfs i A w) : OpGoal P ops Φ S2 R dfs i A w := by
  obtain ⟨o, od, ho, hod, h⟩ := h
  exact ⟨o, od, ho, hod, fun K hK => h K fun v w' h1 h2 h3 => hK v w' h1 (hS w' h2) h3⟩
end
end Go.Proofs.Ytfpocddpnoighaa.R

/- a region that draws its order, in which two operations change what the others do not look at: what is so of the memory is said by which of the two have been done. -/
import Derived.Test.YtbifmdepkbgnjaaZ
namespace Go.Proofs.Ytbifmdepkbgnjaa.R
open Go.RowKit
set_option linter.unusedVariables false
set_option linter.unusedSimpArgs false

section
variable {P : Program} {ops : Array Oper}
theorem rep_false (n x : Nat) : (Array.replicate n false).getD x false = false := by
  by_cases h : x < n <;> simp [h]
structure InvT (p q : Nat) (P : Program) (ops : Array Oper) (Φ : Nat → Value → World → Prop) (S : Bool → Bool → World → Prop) (R : World → World → Prop) (nd : Array Nat) (fin : Nat) (a0 : Act) (w0 : World) (L : Array Bool) (a : Act) (w : World) : Prop where
  s : S (L.getD p false) (L.getD q false) w
  r : R w0 w
  size : L.size = ops.size
  done : ∀ i, i < ops.size → L.getD i false = true → need ops nd fin L i → Φ i (slotOf ops i a) w
  old : ∀ t, (∀ i, i < ops.size → L.getD i false = true → dstOf ops i ≠ some t) → a.tmps[t]? = a0.tmps[t]?
  tmps : a.tmps.size = a0.tmps.size
  dfs : a.defers = a0.defers
  closed : Closed ops L

theorem wp_region_envt {id : Nat} {a0 : Act} {w0 : World} {Q : Exit → Act → World → Prop} (S : Bool → Bool → World → Prop) (R : World → World → Prop) (RK : Nat → World → World → Prop) (Φ : Nat → Value → World → Prop) (b nd : Array Nat) (fin_ p q : Nat) (hpl : p < ops.size) (hql : q < ops.size) (hm : P.follows .mixedOrders = true)
    (hok : regOk ops b a0.tmps.size = true) (hnd : ndOk ops b nd = true) (hR0 : ∀ w, R w w) (hRt : ∀ u v w, R u v → R v w → R u w) (hRK : ∀ k u v, k < ops.size → RK k u v → R u v)
    (hst : ∀ i k, i < ops.size → k < ops.size → keepz ops b nd fin_ i k = true → ∀ v w w', Φ i v w → RK k w w' → Φ i v w') (h0 : S false false { w0 with drawn := w0.drawn + 1 })
    (hop : ∀ i, i < ops.size → ∀ (vs : Nat → Value) w dp dq, (i = p → dp = false) → (i = q → dq = false) → S dp dq w → R { w0 with drawn := w0.drawn + 1 } w → (∀ j, j < ops.size → (nd.getD i 0).testBit j = true → Φ j (vs j) w) → OpGoal P ops Φ (S (dp || i == p) (dq || i == q)) (RK i) a0.defers i (putAll a0 vs (ancs ops b i)) w)
    (hend : ∀ (vs : Nat → Value) w, S true true w → R { w0 with drawn := w0.drawn + 1 } w → (∀ i, i < ops.size → fin_.testBit i = true → Φ i (vs i) w) → Q .normal (putAll a0 vs (alls ops)) w) : (Code.region id ops true).wp P Q a0 w0 := by
  simp only [regOk, Bool.and_eq_true] at hok
  obtain ⟨⟨⟨hb, hs⟩, hr⟩, hsel⟩ := hok
  have hrange : ∀ i t, dstOf ops i = some t → t < a0.tmps.size := by
    intro i t h
    have li : i < ops.size := by
      cases hx : ops[i]? with
      | none => simp [dstOf, hx] at h
      | some o => exact size_lt hx
    have := List.all_eq_true.1 hr i (List.mem_range.2 li)
    rw [h] at this
    simpa using this
  refine wp_region_any hm ?_
  have key : ∀ fuel (L : Array Bool) (a : Act) (w : World), InvT p q P ops Φ S R nd fin_ a0 { w0 with drawn := w0.drawn + 1 } L a w → ((List.range ops.size).filter fun i => !L.getD i false).length ≤ fuel → wpAny P .any ops Q fuel L a w := by
    intro fuel
    have fin : ∀ (L : Array Bool) (a : Act) (w : World), InvT p q P ops Φ S R nd fin_ a0 { w0 with drawn := w0.drawn + 1 } L a w → (∀ i, i < ops.size → L.getD i false = true) → Q .normal a w := by
      intro L a w hI hall
      have ha : a = putAll a0 (fun i => slotOf ops i a) (alls ops) := by
        have h1 : a.tmps = (putAll a0 (fun i => slotOf ops i a) (alls ops)).tmps := by
          apply Array.ext_getElem?
          intro t
          by_cases hw : ∃ i, dstOf ops i = some t
          · obtain ⟨i, hi⟩ := hw
            have ht := hrange i t hi
            have li : i < ops.size := by
              cases hx : ops[i]? with
              | none => simp [dstOf, hx] at hi
              | some o => exact size_lt hx
            rw [putAll_some a0 _ t i ht _ (mem_alls.2 ⟨li, hi⟩) (fun k hk => dst_uniq hs (mem_alls.1 hk).2 hi)]
            exact slot_eq hi (by rw [hI.tmps]; exact ht)
          · rw [putAll_none _ _ _ _ (fun j hj => hw ⟨j, (mem_alls.1 hj).2⟩)]
            exact hI.old t fun i _ _ hi => hw ⟨i, hi⟩
        have h2 : a.defers = (putAll a0 (fun i => slotOf ops i a) (alls ops)).defers := by rw [putAll_defers]; exact hI.dfs
        exact act_ext h1 h2
      rw [ha]
      have hs1 := hI.s
      rw [hall p hpl, hall q hql] at hs1
      exact hend _ w hs1 hI.r fun i hi hf => hI.done i hi (hall i hi) (.inl hf)
    have stuck : ∀ (L : Array Bool) (a : Act) (w : World), InvT p q P ops Φ S R nd fin_ a0 { w0 with drawn := w0.drawn + 1 } L a w → Region.ready .any ops L = [] → ∀ i, i < ops.size → L.getD i false = true := by
      intro L a w hI hre i
      induction i using Nat.strongRecOn with
      | _ i ih =>
        intro hi
        by_cases hl : L.getD i false = true
        · exact hl
        · exfalso
          have hmem : i ∈ Region.ready .any ops L := by
            rw [mem_ready]
            refine ⟨?_, _, Array.getElem?_eq_getElem hi, fun e he hbe => ?_⟩
            · rw [getD_ft L i (by rw [hI.size]; exact hi)]
              simpa using hl
            · have h := List.all_eq_true.1 hb i (List.mem_range.2 hi)
              rw [Array.getElem?_eq_getElem hi] at h
              simp only [Bool.and_eq_true, beq_iff_eq, List.all_eq_true] at h
              have h2 := h.2 e (by simpa using he)
              simp only [hbe, Bool.not_true, Bool.false_or, decide_eq_true_eq] at h2
              exact ih e.on h2 (by omega)
          rw [hre] at hmem
          cases hmem
    induction fuel with
    | zero =>
      intro L a w hI hcount
      have hall : ∀ i, i < ops.size → L.getD i false = true := by
        intro i hi
        by_cases hl : L.getD i false = true
        · exact hl
        · have : i ∈ (List.range ops.size).filter fun i => !L.getD i false := by
            rw [List.mem_filter]
            exact ⟨List.mem_range.2 hi, by simpa using hl⟩
          have := List.length_pos_of_mem this
          omega
      refine ⟨?_, fin L a w hI hall⟩
      rw [List.eq_nil_iff_forall_not_mem]
      intro i hi
      obtain ⟨hu, o, ho, _⟩ := mem_ready.1 hi
      have li := size_lt ho
      rw [getD_ft L i (by rw [hI.size]; exact li), hall i li] at hu
      cases hu
    | succ fuel ih =>
      intro L a w hI hcount
      refine ⟨fun hre => fin L a w hI (stuck L a w hI hre), fun i hi => ?_⟩
      obtain ⟨hu, o, ho, hready⟩ := mem_ready.1 hi
      have li := size_lt ho
      have hun : L.getD i false = false := by rw [← getD_ft L i (by rw [hI.size]; exact li)]; exact hu
      have hanc : ∀ j, (b.getD i 0).testBit j = true → L.getD j false = true := anc_listed hb hI.closed i i (Nat.le_refl _) o ho hready
      have hnot : ∀ j, (b.getD j 0).testBit i = true → L.getD j false = false := by
        intro j hj
        by_cases hl : L.getD j false = true
        · obtain ⟨oj, hoj⟩ : ∃ oj, ops[j]? = some oj := by
            by_cases hlt : j < ops.size
            · exact ⟨_, Array.getElem?_eq_getElem hlt⟩
            · have : L.getD j false = false := by simp [hI.size, hlt]
              rw [this] at hl; cases hl
          have := anc_listed hb hI.closed j j (Nat.le_refl _) oj hoj (hI.closed j oj hoj hl) i hj
          rw [hun] at this; cases this
        · simpa using hl
      have hgoal := hop i li (fun j => slotOf ops j a) w (L.getD p false) (L.getD q false) (by rintro rfl; exact hun) (by rintro rfl; exact hun) hI.s hI.r fun j hj hbj => by
        have hb2 : (b.getD i 0).testBit j = true := by
          have h := List.all_eq_true.1 hnd i (List.mem_range.2 li)
          rw [beq_iff_eq] at h
          rw [← h, Nat.testBit_and, Bool.and_eq_true] at hbj
          exact hbj.2
        exact hI.done j hj (hanc j hb2) (.inr ⟨i, li, hun, hbj⟩)
      generalize hA : putAll a0 (fun j => slotOf ops j a) (ancs ops b i) = A at hgoal
      have hAsz : A.tmps.size = a0.tmps.size := by rw [← hA, putAll_size]
      have hAd : A.defers = a0.defers := by rw [← hA, putAll_defers]
      have hslot : ∀ t, looks ops o t = true → A.tmps[t]? = a.tmps[t]? := by
        intro t hl
        by_cases hw : ∃ j, j < ops.size ∧ dstOf ops j = some t ∧ (b.getD i 0).testBit j = true
        · obtain ⟨j, hj, hd, hbj⟩ := hw
          have ht := hrange j t hd
          rw [← hA, putAll_some a0 _ t j ht _ (mem_ancs.2 ⟨hj, hbj, hd⟩) (fun k hk => dst_uniq hs (mem_ancs.1 hk).2.2 hd)]
          exact (slot_eq hd (by rw [hI.tmps]; exact ht)).symm
        · rw [← hA, putAll_none _ _ _ _ (fun j hj => hw ⟨j, (mem_ancs.1 hj).1, (mem_ancs.1 hj).2.2, (mem_ancs.1 hj).2.1⟩)]
          symm
          refine hI.old t fun j hj hlj hd => ?_
          by_cases hij : i = j
          · subst hij; rw [hun] at hlj; cases hlj
          · rcases look_order hs ho hd hl hij with h | h
            · exact hw ⟨j, hj, hd, h⟩
            · rw [hnot j h] at hlj; cases hlj
      have hev : ∀ x ∈ o.op.operands, A.eval x = a.eval x := by
        intro x hx
        cases x with
        | tmp t =>
          have hl : looks ops o t = true := by
            unfold looks
            rw [Bool.or_eq_true]
            left
            rw [Array.any_eq_true']
            exact ⟨_, hx, by simp⟩
          simp only [Act.eval, Array.getD_eq_getD_getElem?, hslot t hl]
        | _ => rfl
      have hwant : Region.wanted o (yielded ops A.tmps) = Region.wanted o (yielded ops a.tmps) := by
        unfold Region.wanted
        cases hg : o.guard with
        | none => rfl
        | some gw =>
          obtain ⟨g, want⟩ := gw
          simp only
          have hy : yielded ops A.tmps g = yielded ops a.tmps g := by
            unfold yielded
            cases hdg : (ops[g]?).bind (·.dst) with
            | none => rfl
            | some t =>
              have hl : looks ops o t = true := by
                unfold looks
                rw [Bool.or_eq_true]
                right
                simp [hg, dstOf, hdg]
              simp only [Option.bind_some, hslot t hl]
          rw [hy]
      rw [← hAd] at hgoal
      refine wpOp_env ho (Region.noSelect_spec hsel i o · · ho) hev hwant (fun d hd => ?_) (K := fun v w' => Φ i v w' ∧ S (L.getD p false || i == p) (L.getD q false || i == q) w' ∧ RK i w w') ?_ hgoal.run
      · rw [hAsz]
        exact hrange i d (by simp [dstOf, ho, hd])
      · rintro v w' ⟨h1, h2, h3⟩ u hcase
        have hsl : slotOf ops i (a.put o.dst u) = match o.dst with | some _ => u | none => undef := by
          unfold slotOf dstOf
          rw [ho]
          cases hdo : o.dst with
          | none => simp [hdo]
          | some d =>
            have := hrange i d (by simp [dstOf, ho, hdo])
            simp [hdo, Act.put, hI.tmps, this]
        have hother : ∀ j, j ≠ i → slotOf ops j (a.put o.dst u) = slotOf ops j a := by
          intro j hj
          cases hdj : dstOf ops j with
          | none => simp [slotOf, hdj]
          | some t =>
            cases hdo : o.dst with
            | none => rfl
            | some d =>
              have hne : d ≠ t := fun e => hj (dst_uniq hs hdj (by simp [dstOf, ho, hdo, e]))
              simp [slotOf, hdj, Act.put, Array.getElem?_setIfInBounds, hne]
        have hset : ∀ x, (L.setIfInBounds i true).getD x false = (L.getD x false || i == x) := by
          intro x
          by_cases hx : i = x
          · subst hx; simp [hI.size, li]
          · rw [getD_set_ne false hx]; simp [hx]
        refine ih _ _ _ ⟨by rw [hset p, hset q]; exact h2, hRt _ _ _ hI.r (hRK i _ _ li h3), by simpa using hI.size, fun j hj hlj hneed => ?_, fun t ht => ?_, ?_, ?_, ?_⟩ ?_
        · by_cases hji : j = i
          · subst hji
            rw [hsl]
            rcases hcase with ⟨hu1, hu2⟩ | ⟨hu1, hu2⟩
            · rw [hu1]
              simp only
              rw [← hu2]
              exact h1
            · cases hdo : o.dst with
              | none => exact absurd hdo hu1
              | some d => simp only; rw [hu2]; exact h1
          · rw [hother j hji]
            have hneed' : need ops nd fin_ L j ∧ keep ops b nd fin_ j i = true := by
              rcases hneed with hf | ⟨m, hm1, hm2, hm3⟩
              · exact ⟨.inl hf, by simp [keep, hf, hji]⟩
              · have hmi : m ≠ i := by
                  rintro rfl
                  simp [hI.size, li] at hm2
                rw [getD_set_ne false (Ne.symm hmi)] at hm2
                refine ⟨.inr ⟨m, hm1, hm2, hm3⟩, ?_⟩
                unfold keep
                rw [Bool.and_eq_true, Bool.or_eq_true, List.any_eq_true]
                refine ⟨by simpa using hji, .inr ⟨m, List.mem_range.2 hm1, ?_⟩⟩
                have hnb : (b.getD i 0).testBit m = false := by
                  by_cases hx : (b.getD i 0).testBit m = true
                  · rw [hanc m hx] at hm2; cases hm2
                  · simpa using hx
                rw [hm3, hnb]
                simpa using hmi
            rw [getD_set_ne false (Ne.symm hji)] at hlj
            refine hst j i hj li (by unfold keepz; rw [hneed'.2, Bool.true_and, Bool.not_eq_true']; cases hbb : (b.getD j 0).testBit i with | false => rfl | true => rw [hnot j hbb] at hlj; cases hlj) _ _ _ (hI.done j hj hlj hneed'.1) h3
        · have hti : dstOf ops i ≠ some t := ht i li (by simp [hI.size, li])
          have hold := hI.old t fun j hj hlj => by
            by_cases hji : j = i
            · subst hji; exact hti
            · refine ht j hj ?_
              rw [getD_set_ne false (Ne.symm hji)]
              exact hlj
          rw [← hold]
          cases hdo : o.dst with
          | none => rfl
          | some d =>
            have hne : d ≠ t := fun e => hti (by simp [dstOf, ho, hdo, e])
            simp [Act.put, Array.getElem?_setIfInBounds, hne]
        · rw [← hI.tmps]; cases o.dst <;> simp [Act.put]
        · rw [← hI.dfs]; cases o.dst <;> rfl
        · intro j oj hoj hlj e he hbe
          by_cases hji : j = i
          · subst hji
            rw [ho] at hoj
            cases hoj
            exact getD_set_true (hready e he hbe)
          · rw [getD_set_ne false (Ne.symm hji)] at hlj
            exact getD_set_true (hI.closed j oj hoj hlj e he hbe)
        · have := count_lt ops.size i L li hI.size hun
          omega
  refine key _ _ _ _ ⟨(by rw [rep_false, rep_false]; exact h0), hR0 _, by simp, fun i hi hl _ => ?_, fun t _ => rfl, rfl, rfl, fun i o ho hl => ?_⟩ ?_
  · simp [hi] at hl
  · simp [size_lt ho] at hl
  · refine Nat.le_trans (List.length_filter_le _ _) ?_
    simp
/-- the same, as it is used: the lists written out by whoever calls, Φ knowing the frame. -/
theorem wp_region_two {id : Nat} {a0 : Act} {w0 : World} {Q : Exit → Act → World → Prop} (S : Bool → Bool → World → Prop) (R : World → World → Prop) (RK : Nat → World → World → Prop) (Φ : Act → Nat → Value → World → Prop) (b nd : Array Nat) (fin_ p q : Nat) (hm : P.follows .mixedOrders = true)
    (n : Nat) (hn : ops.size = n) (hpl : p < n) (hql : q < n) (hok : ∀ m, a0.tmps.size = m → regOk ops b m = true) (hnd : ndOk ops b nd = true) (hR0 : ∀ w, R w w) (hRt : ∀ u v w, R u v → R v w → R u w) (hRK : ∀ k u v, k < n → RK k u v → R u v)
    (hst : ∀ i, i < n → ∀ k, k < n → ∀ y, keepz ops b nd fin_ i k = y → y = true → ∀ v w w', Φ a0 i v w → RK k w w' → Φ a0 i v w') (h0 : S false false w0.drew)
    (hop : ∀ i, i < n → ∀ l, ancs ops b i = l → ∀ (vs : Nat → Value) w dp dq, (i = p → dp = false) → (i = q → dq = false) → S dp dq w → R w0.drew w → (∀ j, j < n → (nd.getD i 0).testBit j = true → Φ a0 j (vs j) w) → OpGoal P ops (Φ a0) (S (dp || i == p) (dq || i == q)) (RK i) a0.defers i (putAll a0 vs l) w)
    (hend : ∀ l, alls ops = l → ∀ (vs : Nat → Value) w, S true true w → R w0.drew w → (∀ i, i < n → fin_.testBit i = true → Φ a0 i (vs i) w) → Q .normal (putAll a0 vs l) w) : (Code.region id ops true).wp P Q a0 w0 := by
  subst hn
  refine wp_region_envt S R RK (fun i v w => i < ops.size → Φ a0 i v w) b nd fin_ p q hpl hql hm (hok _ rfl) hnd hR0 hRt hRK (fun i k hi hk hkp v w w' h hr _ => hst i hi k hk _ rfl hkp v w w' (h hi) hr) h0 (fun i hi vs w dp dq e1 e2 hS hR hp => ?_) (fun vs w hS hR hp => hend _ rfl vs w hS hR fun i hi hf => hp i hi hf hi)
  obtain ⟨o, od, ho, hod, h⟩ := hop i hi _ rfl vs w dp dq e1 e2 hS hR (fun j hj hb => hp j hj hb hj)
  exact ⟨o, od, ho, hod, fun K hK => h K fun v w' h1 h2 h3 => hK v w' (fun _ => h1) h2 h3⟩
end
end Go.Proofs.Ytbifmdepkbgnjaa.R

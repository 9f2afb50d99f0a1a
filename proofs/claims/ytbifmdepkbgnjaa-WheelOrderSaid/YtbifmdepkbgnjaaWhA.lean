/- wheel: rows of timers: IndexFunc, DeleteFunc (turned from the cache's laws on entries by conv.py). -/
import Derived.Test.YtbifmdepkbgnjaaF
import Derived.Test.YtbifmdepkbgnjaaG
namespace Go.Proofs.Ytbifmdepkbgnjaa.Wh
open Go.RowKit Go.Proofs.Ytbifmdepkbgnjaa.L Go.Proofs.Ytbifmdepkbgnjaa.R Go.Proofs.Ytbifmdepkbgnjaa.A Go.Proofs.Ytbifmdepkbgnjaa.S Go.Proofs.Ytbifmdepkbgnjaa.T Go.Proofs.Ytbifmdepkbgnjaa.C Go.Proofs.Ytbifmdepkbgnjaa.G Go.Proofs.Ytbifmdepkbgnjaa.E Go.Proofs.Ytbifmdepkbgnjaa.F
set_option linter.unusedVariables false
set_option linter.unusedSimpArgs false

abbrev TM : TypeId := 66
/-- a timer: kind, cell, node, the three numbers of a transaction's name, when it is due. -/
abbrev Tm := Int × Int × Int × Int × Int × Int × Int
def encT (e : Tm) : List Value := [.int .i64 e.1, .int .i64 e.2.1, .int .i64 e.2.2.1, .int .i64 e.2.2.2.1, .int .i64 e.2.2.2.2.1, .int .i64 e.2.2.2.2.2.1, .int .i64 e.2.2.2.2.2.2]
def aggT (e : Tm) : Value := .agg #[.int .i64 e.1, .int .i64 e.2.1, .int .i64 e.2.2.1, .int .i64 e.2.2.2.1, .int .i64 e.2.2.2.2.1, .int .i64 e.2.2.2.2.2.1, .int .i64 e.2.2.2.2.2.2]
theorem encT_len (e : Tm) : (encT e).length = 7 := rfl
theorem one_enc {L : List Tm} : ∀ u ∈ L.flatMap encT, u.oneCell' = true := by
  intro u hu
  obtain ⟨e, _, h⟩ := List.mem_flatMap.1 hu
  simp only [encT, List.mem_cons, List.not_mem_nil, or_false] at h
  rcases h with rfl | rfl | rfl | rfl | rfl | rfl | rfl <;> rfl
/-- a row of timers that is read, at one place. -/
theorem tm_at {w : World} {A : Option Addr} {n : Nat} {L : List Tm} (h : RdE w A n 7 (L.map encT)) (k : Nat) (hk : k < n) (hl : k < L.length) (x : Tm) (hx : L[k] = x) :
    ∃ b o, A = some ⟨b, o, none⟩ ∧ w.cell? ⟨b, o + k * 7, none⟩ = some (.int .i64 x.1) ∧ w.cell? ⟨b, o + k * 7 + 1, none⟩ = some (.int .i64 x.2.1) ∧ w.cell? ⟨b, o + k * 7 + 2, none⟩ = some (.int .i64 x.2.2.1) ∧ w.cell? ⟨b, o + k * 7 + 3, none⟩ = some (.int .i64 x.2.2.2.1) ∧ w.cell? ⟨b, o + k * 7 + 4, none⟩ = some (.int .i64 x.2.2.2.2.1) ∧ w.cell? ⟨b, o + k * 7 + 5, none⟩ = some (.int .i64 x.2.2.2.2.2.1) ∧ w.cell? ⟨b, o + k * 7 + 6, none⟩ = some (.int .i64 x.2.2.2.2.2.2) := by
  obtain ⟨b, o, hA, hl', hc⟩ := h.at k hk
  subst hx
  exact ⟨b, o, hA, hc 0 (by decide), hc 1 (by decide), hc 2 (by decide), hc 3 (by decide), hc 4 (by decide), hc 5 (by decide), hc 6 (by decide)⟩
def ToldE (P : Program) (fn : FuncId) (cap : Array Value) (p : Tm → Bool) (w0 : World) (xs : List Tm) : Prop :=
  ∀ x ∈ xs, ∀ w1, Below w0.heap.size w0 w1 → Calls P fn (#[aggT x] ++ cap) w1 fun e w' => e = .returned (.bool (p x)) ∧ Below w1.heap.size w1 w'
set_option maxHeartbeats 4000000 in
theorem index_tm (fn : FuncId) (cap : Array Value) (p : Tm → Bool) (A : Option Addr) (n c : Nat) (xs : List Tm) (w : World) (hbd : Bodied Try.prog fn) (hr : RdE w A n 7 (xs.map encT)) (hf : ToldE Try.prog fn cap p w xs) :
    Calls Try.prog 33 #[.slice A n c, .func (.func fn) #[] cap] w fun e w' => e = .returned (.int .i64 (idx p xs)) ∧ Below w.heap.size w w' := by
  have hln := hr.2.1
  have HR := Lib.hid hr
  have HF := Lib.hid hf
  have hl : xs.length = n := by simpa using hr.1
  have HL := Lib.hid hl
  obtain ⟨r, hres⟩ : ∃ r, Hid (idx p xs = r) := ⟨_, Lib.hid rfl⟩
  rw [hres.out]
  unfold Bodied at hbd
  clear hr hf hl
  go_enter Try.func33, Try.ntmps33
  go_wp2
  go_loopw [8] (fun i wr => ∃ k : Nat, k ≤ n ∧ i = .int .i64 k ∧ Below w.heap.size w wr ∧ Hid (∀ j, (h : j < xs.length) → j < k → p xs[j] = false)) (fun i _ => n - (intOf i).toNat)
  case atStart => exact ⟨0, by omega, rfl, Below.refl _ _, Lib.hid fun j _ h => absurd h (by omega)⟩
  case round =>
    obtain ⟨k, hk, rfl, hb, hnot⟩ := hrel
    by_cases hlt : k < n
    · have hkl : k < xs.length := by have := HL.out; omega
      obtain ⟨z, hz⟩ : ∃ z : Tm, Hid (xs[k] = z) := ⟨_, Lib.hid rfl⟩
      obtain ⟨ab, ao, hA, c0, c1, c2, c3, c4, c5, c6⟩ := tm_at (HR.out.below hb) k hlt hkl z hz.out
      subst hA
      have hcall := HF.out z (by rw [← hz.out]; exact List.getElem_mem _) _ hb
      obtain ⟨q, hq⟩ : ∃ q, Hid (p z = q) := ⟨_, Lib.hid rfl⟩
      rw [hq.out] at hcall
      have hzq : Hid (p xs[k] = q) := Lib.hid (by rw [hz.out]; exact hq.out)
      clear hq hz
      obtain ⟨z1, z2, z3, z4, z5, z6, z7⟩ := z
      dsimp only [aggT] at hcall c0 c1 c2 c3 c4 c5 c6
      have HC := Lib.hid hcall
      clear hcall
      cases q
      · go_wp2_with fail
        refine HC.out.mono ?_
        rintro e w1 ⟨rfl, hb1⟩
        go_wp2
        go_roundw
        case rel => exact ⟨k + 1, by omega, by go_num, below2 hb hb1, Lib.hid fun j hj hjk => by
          by_cases e : j = k
          · subst e; exact hzq.out
          · exact hnot.out j hj (by omega)⟩
        case measure => simp [intOf]; omega
      · go_wp2_with fail
        refine HC.out.mono ?_
        rintro e w1 ⟨rfl, hb1⟩
        go_wp2
        go_ret
        exact ⟨reti (by rw [← hres.out]; exact (idx_some hkl hnot.out hzq.out).symm), below2 hb hb1⟩
    · go_wp2
      go_ret
      exact ⟨reti (by rw [← hres.out]; exact (idx_none fun j hj => hnot.out j hj (by have := HL.out; omega)).symm), hb⟩

/-- what may have changed: the cache's own block and its row's; the row is the old one's block or a new one. -/
structure Chg (b : Nat) (v : Value) (w : World) (v' : Value) (w' : World) : Prop where
  keep : Keep (b :: v.ownBlock.toList) w w'
  row : v'.ownBlock = v.ownBlock ∨ ∀ k, v'.ownBlock = some k → w.heap.size ≤ k
theorem Chg.refl (b : Nat) (v : Value) (w : World) : Chg b v w v w := ⟨Keep.refl _ _, .inl rfl⟩
theorem Chg.of_below {b : Nat} {v : Value} {w w' : World} (h : Below w.heap.size w w') : Chg b v w v w' := ⟨.of_below h, .inl rfl⟩
theorem keep_of_new {S S' : List Nat} {a w w' : World} (h : Keep S a w) (h' : Keep S' w w') (hs : ∀ x ∈ S', x ∈ S ∨ a.heap.size ≤ x) : Keep S a w' := by
  refine ⟨h'.os.trans h.os, h'.tape.trans h.tape, h'.output.trans h.output, Nat.le_trans h.size h'.size, fun k hk hn => ?_⟩
  refine (h'.block k (Nat.lt_of_lt_of_le hk h.size) fun hx => ?_).trans (h.block k hk hn)
  rcases hs k hx with h | h
  · exact hn h
  · omega
theorem Chg.trans {b : Nat} {v v1 v2 : Value} {w w1 w2 : World} (h : Chg b v w v1 w1) (h' : Chg b v1 w1 v2 w2) : Chg b v w v2 w2 := by
  have hs := h.keep.size
  have hw : ∀ x ∈ (b :: v1.ownBlock.toList : List Nat), x ∈ (b :: v.ownBlock.toList : List Nat) ∨ w.heap.size ≤ x := by
    intro x hx
    rcases List.mem_cons.1 hx with rfl | hx
    · exact .inl (by simp)
    · have hx' : v1.ownBlock = some x := by simpa using hx
      rcases h.row with e | e
      · exact .inl (by rw [← e]; simp [hx'])
      · exact .inr (e x hx')
  refine ⟨keep_of_new h.keep h'.keep hw, ?_⟩
  rcases h'.row with e' | e'
  · rw [e']; exact h.row
  · exact .inr fun k hk => Nat.le_trans hs (e' k hk)
theorem Chg.below {b : Nat} {v v1 : Value} {w w1 w2 : World} (h : Chg b v w v1 w1) (h' : Below w1.heap.size w1 w2) : Chg b v w v1 w2 := h.trans (.of_below h')
/-- an element of an owned row is stored as a whole. -/
theorem own_store {w : World} {base : Nat} {e : TypeId} {size n g cap : Nat} {xs : List Value} (h : w.ownsRow base e size (.slice (some ⟨g, 0, none⟩) n cap) n xs) (o : Nat) (vs : List Value) (ho : o + vs.length ≤ n * size) :
    ∃ cur, w.heap[g]? = some (.cells cur e (0, 0)) ∧ o + vs.length ≤ cur.size ∧ ∀ w' : World, w'.heap[g]? = some (.cells (cur.toList.take o ++ vs ++ cur.toList.drop (o + vs.length)).toArray e (0, 0)) → w'.ownsRow base e size (.slice (some ⟨g, 0, none⟩) n cap) n (xs.take o ++ vs ++ xs.drop (o + vs.length)) := by
  obtain ⟨hl, h⟩ := h
  rcases h with ⟨hv, _⟩ | ⟨g', cap', cur, hv, hb, hg, hn, hm, hs, ht⟩
  · cases hv
  · injection hv with h1 h2 h3
    injection h1 with h1
    injection h1 with h1 _
    subst h1
    subst h3
    have hns : n * size ≤ cap * size := Nat.mul_le_mul_right _ hn
    refine ⟨cur, hg, by omega, fun w' hw' => ⟨?_, .inr ⟨g, cap, _, rfl, hb, hw', hn, hm, ?_, ?_⟩⟩⟩
    · simp only [List.length_append, List.length_take, List.length_drop]; omega
    · simp only [List.size_toArray, List.length_append, List.length_take, List.length_drop, Array.length_toList]; omega
    · rw [← ht]
      simp only [List.take_append, List.take_take, List.length_take, List.length_append, Array.length_toList, List.drop_take]
      rw [Nat.min_eq_right (show o ≤ n * size by omega), Nat.min_eq_left (show o ≤ n * size by omega), Nat.min_eq_left (show o ≤ cur.size by omega), List.take_of_length_le (show vs.length ≤ n * size - o by omega), show n * size - (o + vs.length) = n * size - (o + vs.length) from rfl]

theorem flat_set {L : List Tm} {i : Nat} (hi : i < L.length) (e : Tm) : (L.flatMap encT).take (i * 7) ++ encT e ++ (L.flatMap encT).drop (i * 7 + (encT e).length) = (L.set i e).flatMap encT := by
  rw [show i * 7 + (encT e).length = (i + 1) * 7 by rw [encT_len]; omega, flat_take encT_len, flat_drop encT_len, List.set_eq_take_append_cons_drop, if_pos hi, List.flatMap_append, List.flatMap_cons, List.append_assoc]
theorem wrap1 (x : Int) (h : -9223372036854775808 ≤ x ∧ x ≤ 9223372036854775807) : IntKind.i64.wrap x = x := by rw [IntKind.wrap_i64]; omega
/-- a test on entries, wherever only block g was written. -/
def ToldK (P : Program) (fn : FuncId) (cap : Array Value) (p : Tm → Bool) (S : List Nat) (w0 : World) (xs : List Tm) : Prop :=
  ∀ x ∈ xs, ∀ w1, Keep S w0 w1 → Calls P fn (#[aggT x] ++ cap) w1 fun e w' => e = .returned (.bool (p x)) ∧ Below w1.heap.size w1 w'
theorem ToldK.e {P : Program} {fn : FuncId} {cap : Array Value} {p : Tm → Bool} {S : List Nat} {w0 : World} {xs : List Tm} (h : ToldK P fn cap p S w0 xs) : ToldE P fn cap p w0 xs := fun x hx w1 hb => h x hx w1 (.of_below hb)
set_option maxHeartbeats 16000000 in
set_option maxRecDepth 100000 in
theorem delete_func (fn : FuncId) (cap : Array Value) (p : Tm → Bool) (base g cp n : Nat) (L : List Tm) (w : World) (hbd : Bodied Try.prog fn) (h : w.ownsRow base TM 7 (.slice (some ⟨g, 0, none⟩) n cp) n (L.flatMap encT)) (hl : L.length = n) (hf : ToldK Try.prog fn cap p [g] w L) :
    Calls Try.prog 25 #[.slice (some ⟨g, 0, none⟩) n cp, .func (.func fn) #[] cap] w fun e w' => e = .returned (.slice (some ⟨g, 0, none⟩) (L.filter fun x => !p x).length cp) ∧
      w'.ownsRow base TM 7 (.slice (some ⟨g, 0, none⟩) (L.filter fun x => !p x).length cp) (L.filter fun x => !p x).length ((L.filter fun x => !p x).flatMap encT) ∧ Keep [g] w w' := by
  obtain ⟨A, c', hv, hr, -, -⟩ := own_rdE h encT_len hl
  cases hv
  obtain ⟨_, hbg, hgw, hnc, hcm, hcell, hread⟩ := own_some h
  have HI := Lib.hid (index_tm fn cap p _ n cp L w hbd hr hf.e)
  have HF := Lib.hid hf
  have HH := Lib.hid h
  have HL := Lib.hid hl
  obtain ⟨R, hR⟩ : ∃ R, Hid ((L.filter fun x => !p x) = R) := ⟨_, Lib.hid rfl⟩
  rw [hR.out]
  unfold Bodied at hbd
  clear hr hf h hcell hread hl
  cases hx : L.findIdx? p with
  | none =>
    have hno : ∀ j, (hj : j < L.length) → p L[j] = false := fun j hj => List.findIdx?_eq_none_iff.1 hx _ (List.getElem_mem hj)
    have hi : idx p L = -1 := idx_none hno
    rw [hi] at HI
    have hRL : Hid (R = L) := Lib.hid (by
      rw [← hR.out, List.filter_eq_self]
      intro a ha
      obtain ⟨j, hj, rfl⟩ := List.getElem_of_mem ha
      simp [hno j hj])
    clear hno hi hx
    go_enter Try.func25, Try.ntmps25
    go_wp2_with fail
    refine HI.out.mono ?_
    rintro e w1 ⟨rfl, hb1⟩
    go_wp2
    go_ret
    rw [hRL.out, HL.out]
    exact ⟨rfl, own_kept HH.out hb1, Keep.of_below hb1⟩
  | some i0 =>
    obtain ⟨hi0, hpi, hfirst⟩ := List.findIdx?_eq_some_iff_getElem.1 hx
    have hi : idx p L = i0 := idx_some hi0 (fun j hj hji => by simpa using hfirst j hji) (by simpa using hpi)
    rw [hi] at HI
    have hin : i0 < n := by have := HL.out; omega
    have h0 : Hid (L.take i0 = (L.take (i0 + 1)).filter fun x => !p x) := Lib.hid (by
      rw [List.take_add_one, List.getElem?_eq_getElem hi0, Option.toList_some, List.filter_append, List.filter_cons_of_neg (by simp [hpi]), List.filter_nil, List.append_nil, eq_comm, List.filter_eq_self]
      intro a ha
      obtain ⟨j, hj, rfl⟩ := List.getElem_of_mem ha
      rw [List.length_take] at hj
      rw [List.getElem_take]
      simpa using hfirst j (by omega))
    clear hx hpi hfirst hi hi0
    have hbq : ((i0 : Int) == -1) = false := by rw [beq_eq_false_iff_ne]; omega
    go_enter Try.func25, Try.ntmps25
    go_wp2_with fail
    refine HI.out.mono ?_
    rintro e w1 ⟨rfl, hb1⟩
    have HB1 := Lib.hid hb1
    clear hb1
    go_wp2_with fail
    clear hbq
    go_loopw [5, 6] (fun ui uj wr => ∃ (i j : Nat) (T : List Tm), i < j ∧ j ≤ n ∧ ui = .int .i64 i ∧ uj = .int .i64 j ∧ T.length = n ∧ wr.ownsRow base TM 7 (.slice (some ⟨g, 0, none⟩) n cp) n (T.flatMap encT) ∧ Keep [g] w wr ∧ Hid (T.take i = ((L.take j).filter fun x => !p x) ∧ T.drop j = L.drop j)) (fun _ j _ => n - (intOf j).toNat)
    case atStart => exact ⟨i0, i0 + 1, L, by omega, by omega, rfl, by go_num, HL.out, own_kept HH.out HB1.out, Keep.of_below HB1.out, Lib.hid ⟨h0.out, rfl⟩⟩
    case round =>
      obtain ⟨i, j, T, hij, hjn, rfl, rfl, hTl, hown, hkp, hT⟩ := hrel
      by_cases hlt : j < n
      · have hjT : j < T.length := by omega
        have hjL : j < L.length := by have := HL.out; omega
        obtain ⟨z, hz⟩ : ∃ z : Tm, Hid (L[j] = z) := ⟨_, Lib.hid rfl⟩
        have hTz : T[j] = z := by
          have h1 := hT.out.2
          rw [List.drop_eq_getElem_cons hjT, List.drop_eq_getElem_cons hjL] at h1
          rw [← hz.out]
          exact (List.cons.inj h1).1
        have hTd : Hid (T.drop (j + 1) = L.drop (j + 1)) := Lib.hid (by
          have h1 := hT.out.2
          rw [List.drop_eq_getElem_cons hjT, List.drop_eq_getElem_cons hjL] at h1
          exact (List.cons.inj h1).2)
        have hLt : Hid (((L.take (j + 1)).filter fun x => !p x) = ((L.take j).filter fun x => !p x) ++ if p z then [] else [z]) := Lib.hid (by
          rw [List.take_add_one, List.getElem?_eq_getElem hjL, hz.out, Option.toList_some, List.filter_append]
          congr 1
          cases hp : p z <;> simp [hp])
        obtain ⟨A2, c2, hv2, hrT, -, -⟩ := own_rdE hown encT_len hTl
        cases hv2
        obtain ⟨ab, ao, hAe, c0, c1, c2, c3, c4, c5, c6⟩ := tm_at hrT j hlt hjT z hTz
        obtain ⟨rfl, rfl⟩ : g = ab ∧ 0 = ao := by injection hAe with h1; injection h1 with h1 h2; exact ⟨h1, h2⟩
        rw [Nat.zero_add] at c0 c1 c2 c3 c4 c5 c6
        obtain ⟨W, hW⟩ : ∃ W, Hid (wr.alloc (.cells #[.int .i64 z.1, .int .i64 z.2.1, .int .i64 z.2.2.1, .int .i64 z.2.2.2.1, .int .i64 z.2.2.2.2.1, .int .i64 z.2.2.2.2.2.1, .int .i64 z.2.2.2.2.2.2] 66) = W) := ⟨_, Lib.hid rfl⟩
        have hbW : Below wr.heap.size wr W := by rw [← hW.out]; exact below_alloc _ _
        have g2 : W.heap[wr.heap.size]? = some (.cells #[.int .i64 z.1, .int .i64 z.2.1, .int .i64 z.2.2.1, .int .i64 z.2.2.2.1, .int .i64 z.2.2.2.2.1, .int .i64 z.2.2.2.2.2.1, .int .i64 z.2.2.2.2.2.2] 66 (0, 0)) := by rw [← hW.out]; exact heap_alloc_new _ _
        have k0 : W.cell? ⟨wr.heap.size, 0, none⟩ = some (.int .i64 z.1) := by rw [cell_of_row W _ 0 _ _ _ g2]; rfl
        have k1 : W.cell? ⟨wr.heap.size, 1, none⟩ = some (.int .i64 z.2.1) := by rw [cell_of_row W _ 1 _ _ _ g2]; rfl
        have k2 : W.cell? ⟨wr.heap.size, 2, none⟩ = some (.int .i64 z.2.2.1) := by rw [cell_of_row W _ 2 _ _ _ g2]; rfl
        have k3 : W.cell? ⟨wr.heap.size, 3, none⟩ = some (.int .i64 z.2.2.2.1) := by rw [cell_of_row W _ 3 _ _ _ g2]; rfl
        have k4 : W.cell? ⟨wr.heap.size, 4, none⟩ = some (.int .i64 z.2.2.2.2.1) := by rw [cell_of_row W _ 4 _ _ _ g2]; rfl
        have k5 : W.cell? ⟨wr.heap.size, 5, none⟩ = some (.int .i64 z.2.2.2.2.2.1) := by rw [cell_of_row W _ 5 _ _ _ g2]; rfl
        have k6 : W.cell? ⟨wr.heap.size, 6, none⟩ = some (.int .i64 z.2.2.2.2.2.2) := by rw [cell_of_row W _ 6 _ _ _ g2]; rfl
        have HC := Lib.hid (HF.out z (by rw [← hz.out]; exact List.getElem_mem _) W (hkp.trans (.of_below hbW)))
        obtain ⟨q, hq⟩ : ∃ q, Hid (p z = q) := ⟨_, Lib.hid rfl⟩
        rw [hq.out] at HC hLt
        have HO := Lib.hid hown
        have HKP := Lib.hid hkp
        have HBW := Lib.hid hbW
        have HTL := Lib.hid hTl
        clear hrT hTz hAe g2 hown hkp hbW hTl hz hq
        obtain ⟨z1, z2, z3, z4, z5, z6, z7⟩ := z
        dsimp only [aggT] at HC c0 c1 c2 c3 c4 c5 c6 k0 k1 k2 k3 k4 k5 k6 hW
        cases q
        · obtain ⟨w2', hw2'⟩ : ∃ x : Nat, x = 0 := ⟨_, rfl⟩
          clear hw2' w2'
          have hi4 : i * 7 + 7 ≤ n * 7 := by omega
          go_wp2_with (rw [hW.out])
          refine HC.out.mono ?_
          rintro e w2 ⟨rfl, hb2⟩
          have HO2 := own_kept HO.out (below2 HBW.out hb2)
          obtain ⟨cur, hcur, hcs, hput⟩ := own_store HO2 (i * 7) [.int .i64 z1, .int .i64 z2, .int .i64 z3, .int .i64 z4, .int .i64 z5, .int .i64 z6, .int .i64 z7] (by simpa using hi4)
          have hcs' : i * 7 + 7 ≤ cur.size := hcs
          replace k0 := cell_below hb2 k0
          replace k1 := cell_below hb2 k1
          replace k2 := cell_below hb2 k2
          replace k3 := cell_below hb2 k3
          replace k4 := cell_below hb2 k4
          replace k5 := cell_below hb2 k5
          replace k6 := cell_below hb2 k6
          have HB2 := Lib.hid (below2 HBW.out hb2)
          have HP := Lib.hid hput
          have HCU := Lib.hid hcur
          clear hb2 HO2 hcs hput hcur
          go_wp2_with (refine wpList_store_blk rfl 66 (.tmp 33) (.tmp 32) rfl g (i * 7) rfl 66 cur (.agg #[.int .i64 z1, .int .i64 z2, .int .i64 z3, .int .i64 z4, .int .i64 z5, .int .i64 z6, .int .i64 z7]) rfl HCU.out (by kernel_rfl) hcs' (by simp [Value.cells, Value.oneCell']) _ rfl ?_; intro w5 hg5 hu5)
          go_roundw
          case rel =>
            have hTi : i < T.length := by have := HTL.out; omega
            have ho5 := HP.out w5 hg5
            have e5 := flat_set hTi (z1, z2, z3, z4, z5, z6, z7)
            refine ⟨i + 1, j + 1, T.set i (z1, z2, z3, z4, z5, z6, z7), by omega, by omega, by go_num, by go_num, by rw [List.length_set]; exact HTL.out, ?_, (HKP.out.trans (.of_below HB2.out)).trans (keep_upd hu5), Lib.hid ⟨?_, ?_⟩⟩
            · rw [← e5]; exact ho5
            · rw [hLt.out, ← hT.out.1, List.take_add_one, List.getElem?_set_self hTi, List.take_set_of_le (Nat.le_refl _)]
              rfl
            · rw [List.drop_set_of_lt (by omega)]; exact hTd.out
          case measure => simp [intOf]; omega
        · go_wp2_with (rw [hW.out])
          refine HC.out.mono ?_
          rintro e w2 ⟨rfl, hb2⟩
          go_wp2
          go_roundw
          case rel => exact ⟨i, j + 1, T, by omega, by omega, rfl, by go_num, HTL.out, own_kept HO.out (below2 HBW.out hb2), HKP.out.trans (.of_below (below2 HBW.out hb2)), Lib.hid ⟨by rw [hT.out.1, hLt.out]; simp, hTd.out⟩⟩
          case measure => simp [intOf]; omega
      · obtain rfl : j = n := by omega
        obtain ⟨_, _, _, _, _, hcell, _⟩ := own_some hown
        have hcl : ∀ ty, (Builtin.clear_ #[61] ty #[.slice (some ⟨g, i * 7, none⟩) (j - i) (cp - i)]).run Try.prog wr = .ok (.tuple #[]) (wr.setCells g (i * 7) (Builtin.zeroCells (Value.agg #[.int .i64 0, .int .i64 0, .int .i64 0, .int .i64 0, .int .i64 0, .int .i64 0, .int .i64 0]).cells (j - i)).toList) :=
          fun ty => run_clear_cells wr _ 66 ty _ 7 Try.underlying61 (fun w => by kernel_rfl) rfl (by decide) (by decide) g _ _ _ (by omega) (fun t ht => (hcell _ (by omega)).1) (fun t ht => (hcell _ (by omega)).2)
        have hzl : (Builtin.zeroCells (Value.agg #[.int .i64 0, .int .i64 0, .int .i64 0, .int .i64 0, .int .i64 0, .int .i64 0, .int .i64 0]).cells (j - i)).toList.length = (j - i) * 7 := by rw [len_zeros]; rfl
        obtain ⟨ho2, hk2⟩ := own_puts _ (i * 7) wr _ hown (show i * 7 + (Builtin.zeroCells (Value.agg #[.int .i64 0, .int .i64 0, .int .i64 0, .int .i64 0, .int .i64 0, .int .i64 0, .int .i64 0]).cells (j - i)).toList.length ≤ j * 7 by rw [hzl]; omega)
        have ho3 := own_cut ho2 i (by omega)
        have hTi : (T.take i) = R := by rw [hT.out.1, List.take_of_length_le (by have := HL.out; omega)]; exact hR.out
        have hRl : R.length = i := by rw [← hTi, List.length_take]; omega
        have hfx : (T.flatMap encT).length = j * 7 := by rw [flat_len encT_len, hTl]
        rw [List.append_assoc, List.take_append_of_le_length (by rw [List.length_take]; omega), List.take_take, Nat.min_self, flat_take encT_len, hTi] at ho3
        have HFIN := Lib.hid (And.intro ho3 (hkp.trans hk2))
        have HRL := Lib.hid hRl
        have hicp : ¬ (cp = i) := by omega
        have hicp2 : i ≤ cp := by omega
        clear hzl ho2 hk2 ho3 hTi hRl hfx hcell hown hkp
        go_wp2
        go_ret
        rw [HRL.out]
        exact ⟨rfl, HFIN.out⟩
end Go.Proofs.Ytbifmdepkbgnjaa.Wh

/- cache, the plain law of CacheLast. -/
import Derived.Test.YtbdcgfdchkbcnaaCaP
namespace Go.Proofs.Ytbdcgfdchkbcnaa.Ca
set_option linter.unusedVariables false
set_option linter.unusedSimpArgs false

def entK (k : Int) (i : Nat) : Ent := (k, (i : Int), (i : Int), 0)
/-- the entries of some puts, the last one first; one for each cell. -/
def ff : List Int → List Ent
  | [] => []
  | k :: r => entK k r.length :: (ff r).filter fun e => e.1 != k
theorem ff_ver : ∀ (r : List Int), ∀ e ∈ ff r, e.2.1 < r.length
  | [], e, h => by cases h
  | k :: r, e, h => by
    rcases List.mem_cons.1 h with rfl | h
    · simp only [entK, List.length_cons]; omega
    · have := ff_ver r e (List.mem_filter.1 h).1
      simp only [List.length_cons]
      omega
theorem ff_uniq : ∀ (r : List Int), Uniq (ff r)
  | [] => List.nodup_nil
  | k :: r => by
    refine List.nodup_cons.2 ⟨fun hm => ?_, List.Nodup.sublist (List.filter_sublist.map _) (ff_uniq r)⟩
    obtain ⟨e, he, hk⟩ := List.mem_map.1 hm
    have := (List.mem_filter.1 he).2
    rw [hk] at this
    simp [entK] at this
theorem filter_take_in {k : Int} : ∀ (F : List Ent) (n : Nat), Uniq F → (∃ e ∈ F.take n, e.1 = k) → (F.take n).filter (fun e => e.1 != k) = (F.filter fun e => e.1 != k).take (n - 1)
  | [], n, _, h => by obtain ⟨e, he, _⟩ := h; simp at he
  | x :: F, 0, _, h => by obtain ⟨e, he, _⟩ := h; simp at he
  | x :: F, m + 1, hU, h => by
    have hUF : Uniq F := (List.nodup_cons.1 hU).2
    by_cases hx : x.1 = k
    · have hno : ∀ e ∈ F, (e.1 != k) = true := fun e he => by
        rw [bne_iff_ne]
        intro hek
        exact (List.nodup_cons.1 hU).1 (List.mem_map.2 ⟨e, he, hek.trans hx.symm⟩)
      rw [List.take_succ_cons, List.filter_cons_of_neg (by simp [hx]), List.filter_cons_of_neg (by simp [hx]), List.filter_eq_self.2 hno, List.filter_eq_self.2 fun e he => hno e (List.mem_of_mem_take he)]
      rfl
    · have h' : ∃ e ∈ F.take m, e.1 = k := by
        obtain ⟨e, he, hk⟩ := h
        rw [List.take_succ_cons] at he
        rcases List.mem_cons.1 he with rfl | he
        · exact absurd hk hx
        · exact ⟨e, he, hk⟩
      cases m with
      | zero => obtain ⟨e, he, _⟩ := h'; simp at he
      | succ m =>
        have ih := filter_take_in F (m + 1) hUF h'
        rw [List.take_succ_cons, List.filter_cons_of_pos (by simp [hx]), List.filter_cons_of_pos (by simp [hx]), ih]
        rfl
theorem filter_take_out {k : Int} : ∀ (F : List Ent) (n : Nat), (∀ e ∈ F.take n, e.1 ≠ k) → (F.filter fun e => e.1 != k).take n = F.take n
  | [], n, _ => by simp
  | x :: F, 0, _ => by simp
  | x :: F, n + 1, h => by
    have hx : x.1 ≠ k := h x (by simp)
    rw [List.filter_cons_of_pos (by simp [hx]), List.take_succ_cons, List.take_succ_cons, filter_take_out F n fun e he => h e (by rw [List.take_succ_cons]; exact List.mem_cons_of_mem _ he)]
theorem drop1_filter {k : Int} (L : List Ent) : dropL [k] L = L.filter fun e => e.1 != k := by
  unfold dropL
  refine List.filter_congr fun e _ => ?_
  by_cases h : e.1 = k <;> simp [bne, h]
/-- a put, as the last one. -/
theorem put_ff (n : Nat) (hn : 0 < n) (r : List Int) (k : Int) : putL n (entK k r.length) ((ff r).take n).reverse = (((ff (k :: r)).take n).reverse, true) := by
  have hU := ff_uniq r
  have hUT : Uniq ((ff r).take n).reverse := by
    unfold Uniq
    rw [List.map_reverse]
    exact List.pairwise_reverse.2 ((List.Nodup.sublist ((List.take_sublist _ _).map _) hU).imp fun h => Ne.symm h)
  obtain ⟨F, hF⟩ : ∃ F, ff r = F := ⟨_, rfl⟩
  have hv := ff_ver r
  obtain ⟨m, rfl⟩ : ∃ m, n = m + 1 := ⟨n - 1, by omega⟩
  have hR : ff (k :: r) = entK k r.length :: F.filter fun e => e.1 != k := by rw [← hF]; rfl
  rw [hR, List.take_succ_cons, List.reverse_cons]
  rw [hF] at hU hUT hv ⊢
  unfold putL
  cases hl : look (entK k r.length).1 (F.take (m + 1)).reverse with
  | some i =>
    obtain ⟨hi, h1, _⟩ := look_some hl
    have hmem : (F.take (m + 1)).reverse[i] ∈ F.take (m + 1) := List.mem_reverse.1 (List.getElem_mem hi)
    have hlt := hv _ (List.mem_of_mem_take hmem)
    simp only [getD_at hi]
    rw [if_neg (by simp only [entK]; omega)]
    have hd := drop_one hUT hl
    rw [drop1_filter] at hd
    rw [← hd, List.filter_reverse]
    have := filter_take_in (k := k) F (m + 1) hU ⟨_, hmem, h1⟩
    simp only [Nat.add_sub_cancel] at this
    rw [show (entK k r.length).1 = k from rfl, this]
  | none =>
    have hno : ∀ e ∈ F.take (m + 1), e.1 ≠ k := fun e he => look_none hl e (List.mem_reverse.2 he)
    have hno' : ∀ e ∈ F.take m, e.1 ≠ k := fun e he => hno e (List.mem_of_mem_take (i := m) (by rw [List.take_take, Nat.min_eq_left (by omega)]; exact he))
    simp only [List.length_reverse, List.length_take]
    rw [filter_take_out F m hno']
    by_cases hlen : m + 1 ≤ F.length
    · rw [if_pos (by omega)]
      have e : (F.take (m + 1)).reverse.eraseIdx 0 = (F.take m).reverse := by
        rw [List.take_add_one, List.getElem?_eq_getElem (by omega), Option.toList_some, List.reverse_append]
        rfl
      rw [e]
    · rw [if_neg (by omega)]
      rw [List.take_of_length_le (show F.length ≤ m + 1 by omega), List.take_of_length_le (show F.length ≤ m by omega)]
/-- one step back: what is behind the entries that were looked at. -/
theorem ff_step_seen (k : Int) (r : List Int) (S : List Int) (h : S.contains k = true) : (ff (k :: r)).filter (fun e => !S.contains e.1) = (ff r).filter fun e => !S.contains e.1 := by
  show (entK k r.length :: (ff r).filter fun e => e.1 != k).filter _ = _
  rw [List.filter_cons_of_neg (by simpa [entK] using h), List.filter_filter]
  refine List.filter_congr fun e _ => ?_
  by_cases he : e.1 = k
  · rw [he, h]; rfl
  · simp [he]
theorem ff_step_new (k : Int) (r : List Int) (S : List Int) (h : S.contains k = false) : (ff (k :: r)).filter (fun e => !S.contains e.1) = entK k r.length :: (ff r).filter fun e => !(S ++ [k]).contains e.1 := by
  show (entK k r.length :: (ff r).filter fun e => e.1 != k).filter _ = _
  rw [List.filter_cons_of_pos (by simpa [entK] using h), List.filter_filter]
  congr 1
  refine List.filter_congr fun e _ => ?_
  rw [List.contains_eq_any_beq, List.contains_eq_any_beq, List.any_append]
  by_cases he : e.1 = k
  · simp [he]
  · simp [he, bne]
/-- where the entries seen are D, the next one is there just if there is room. -/
theorem peek_ff (n : Nat) (F D : List Ent) (e : Ent) (R : List Ent) (hU : Uniq F) (h : F = D ++ e :: R) : peekL e.1 (F.take n).reverse = if D.length < n then (e, true) else (z0, false) := by
  have hUT : Uniq (F.take n).reverse := by
    unfold Uniq
    rw [List.map_reverse]
    exact List.pairwise_reverse.2 ((List.Nodup.sublist ((List.take_sublist _ _).map _) hU).imp fun h => Ne.symm h)
  have hDl : D.length < F.length := by rw [h]; simp
  have he : F[D.length] = e := by simp [h]
  split
  · rename_i hlt
    refine peek_of hUT (List.mem_reverse.2 ?_)
    rw [← he]
    exact List.mem_iff_getElem.2 ⟨D.length, by rw [List.length_take]; omega, by rw [List.getElem_take]⟩
  · rename_i hlt
    refine peek_no fun x hx hc => ?_
    obtain ⟨j, hj, hjx⟩ := List.getElem_of_mem (List.mem_reverse.1 hx)
    rw [List.length_take] at hj
    rw [List.getElem_take] at hjx
    have := uniq_at hU (i := j) (j := D.length) (by omega) hDl (by rw [hjx, he]; exact hc)
    omega
end Go.Proofs.Ytbdcgfdchkbcnaa.Ca

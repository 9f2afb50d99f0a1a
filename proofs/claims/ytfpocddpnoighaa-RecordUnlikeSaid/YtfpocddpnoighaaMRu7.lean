/- wire: the writer's methods: Bool, Text, Bad, String. -/
import Derived.BigRegion
import Derived.Test.YtfpocddpnoighaaMRu5
namespace Go.Proofs.Ytfpocddpnoighaa.Wr
open Go.RowKit Go.Proofs.Ytfpocddpnoighaa.L Go.Proofs.Ytfpocddpnoighaa.A Go.Proofs.Ytfpocddpnoighaa.S Go.Proofs.Ytfpocddpnoighaa.T
set_option linter.unusedVariables false
set_option linter.unusedSimpArgs false

set_option maxHeartbeats 4000000 in
set_option maxRecDepth 100000 in
theorem bool_any (b : Nat) (r : Option Nat) (bs : List UInt8) (bad : Bool) (q : Bool) (w : World) (h : Wr w b r bs bad) (hlen : bs.length + 1 ≤ 140737488355328) :
    Calls Try.prog 79 #[.pointer (some ⟨b, 0, none⟩), .bool q] w fun e w' => e = .returned (.tuple #[]) ∧ Wrs w b (blks b r) (bs ++ [if q then 1 else 0]) bad w' := by
  have H0 := Lib.hid (Wrs.refl h)
  clear h
  cases q
  · go_enter Try.func79, Try.ntmps79
    go_wp2_with fail
    refine (acc2 H0.out (below_alloc _ _) (fun r1 h1 hlt => byte_any b r1 _ bad [0] _ 1 1 _ h1 (rd_bytes 1 (heap_alloc_new _ _) (by simp [Lib.byteCells]) rfl (by decide)) (fun _ o ho hm => by injection ho with ho; subst ho; exact absurd (hlt _ hm) (Nat.lt_irrefl _)) (by simpa using hlen))).mono ?_
    rintro e w2 ⟨rfl, hW2⟩
    go_wp2
    go_end0
    exact ⟨rfl, hW2⟩
  · go_enter Try.func79, Try.ntmps79
    go_wp2_with fail
    refine (acc2 H0.out (below_alloc _ _) (fun r1 h1 hlt => byte_any b r1 _ bad [1] _ 1 1 _ h1 (rd_bytes 1 (heap_alloc_new _ _) (by simp [Lib.byteCells]) rfl (by decide)) (fun _ o ho hm => by injection ho with ho; subst ho; exact absurd (hlt _ hm) (Nat.lt_irrefl _)) (by simpa using hlen))).mono ?_
    rintro e w2 ⟨rfl, hW2⟩
    go_wp2
    refine bodyPost_ret (results_none rfl _ _ _) rfl ?_
    exact ⟨rfl, hW2⟩

def textB (s : ByteArray) : List UInt8 := if okN (s.size : Nat) then bigB s.size 2 ++ s.data.toList else []
set_option maxHeartbeats 4000000 in
set_option maxRecDepth 100000 in
theorem text_any (b : Nat) (r : Option Nat) (bs : List UInt8) (bad : Bool) (s : ByteArray) (w : World) (h : Wr w b r bs bad) (hlen : bs.length + 2 + s.size ≤ 140737488355328) :
    Calls Try.prog 77 #[.pointer (some ⟨b, 0, none⟩), .string s] w fun e w' => e = .returned (.tuple #[]) ∧ Wrs w b (blks b r) (bs ++ textB s) (bad || !okN (s.size : Nat)) w' := by
  have HC := Lib.hid (fits_any b r bs bad (s.size : Nat) w h)
  obtain ⟨q, hq⟩ : ∃ q, Hid ((bad || !okN (s.size : Nat)) = q) := ⟨_, Lib.hid rfl⟩
  obtain ⟨t, ht⟩ : ∃ t, Hid (textB s = t) := ⟨_, Lib.hid rfl⟩
  rw [hq.out] at HC ⊢
  rw [ht.out]
  clear h
  unfold textB at ht
  cases hk : okN (s.size : Nat)
  · rw [hk] at HC ht
    have hres : Hid (t = []) := Lib.hid ht.out.symm
    clear ht hq
    go_enter Try.func77, Try.ntmps77
    go_wp2_with fail
    refine HC.out.mono ?_
    rintro e w1 ⟨rfl, hW⟩
    go_wp2
    go_end0
    exact ⟨rfl, by rw [hres.out, List.append_nil]; exact hW⟩
  · have hres : Hid (t = bigB s.size 2 ++ s.data.toList) := Lib.hid (by rw [← ht.out, hk]; rfl)
    have hq' : Hid ((q || false) = q) := Lib.hid (Bool.or_false q)
    rw [hk] at HC
    have HK := Lib.hid hk
    clear ht hq hk
    go_enter Try.func77, Try.ntmps77
    go_wp2_with fail
    refine HC.out.mono ?_
    rintro e w1 ⟨rfl, hW⟩
    have HC2 := Lib.hid (acc hW (fun r1 h1 => count_any b r1 bs q (s.size : Nat) w1 h1 (by omega)))
    rw [HK.out] at HC2
    clear hW
    go_wp2_with fail
    refine HC2.out.mono ?_
    rintro e w2 ⟨rfl, hW2⟩
    have HW2 : Hid (Wrs w b (blks b r) (bs ++ bigB s.size 2) q w2) := Lib.hid (by simpa using hW2)
    have HC3 := Lib.hid (acc HW2.out (fun r1 h1 => write_string b r1 _ q s w2 h1 (by simp [len_big]; omega)))
    clear hW2
    go_wp2_with fail
    refine HC3.out.mono ?_
    rintro e w3 ⟨rfl, hW3⟩
    go_wp2
    go_end0
    exact ⟨rfl, by rw [hres.out, ← List.append_assoc]; exact hW3⟩

/-- a writer that may have been read: the head of its bytes may be frozen. -/
structure WrF (w : World) (b : Nat) (r : Option Nat) (bs : List UInt8) (bad : Bool) : Prop where
  out : ∃ T p v, w.heap[b]? = some (.cells #[p, v, .bool bad] T (0, 0)) ∧ w.ownsRowF 0 5 1 v bs.length (Lib.byteCells bs) ∧ v.ownBlock = r
  ne : r ≠ some b
  nil : bs = [] → r = none
theorem Wr.f {w : World} {b : Nat} {r : Option Nat} {bs : List UInt8} {bad : Bool} (h : Wr w b r bs bad) : WrF w b r bs bad := by
  obtain ⟨T, p, v, hT, hg, hp, ho, hv⟩ := h.out
  exact ⟨⟨T, p, v, hg, World.ownsRowF_of ho, hv⟩, h.ne, h.nil⟩
theorem ownF_keep {S : List Nat} {w w1 : World} {base : Nat} {e : TypeId} {size n : Nat} {v : Value} {xs : List Value} (h : w.ownsRowF base e size v n xs) (hb : Keep S w w1) (hs : ∀ k, v.ownBlock = some k → k ∉ S) : w1.ownsRowF base e size v n xs := by
  refine ⟨h.1, ?_⟩
  rcases h.2 with hn | ⟨g, cap, cur, fz, rfl, hbg, hgg, rest⟩
  · exact .inl hn
  · exact .inr ⟨g, cap, cur, fz, rfl, hbg, keep_block hb hgg (hs g rfl), rest⟩
theorem WrF.keep {S : List Nat} {w w' : World} {b : Nat} {r : Option Nat} {bs : List UInt8} {bad : Bool} (h : WrF w b r bs bad) (hk : Keep S w w') (hb : b ∉ S) (hr : ∀ k, r = some k → k ∉ S) : WrF w' b r bs bad := by
  obtain ⟨T, p, v, hg, ho, hv⟩ := h.out
  exact ⟨⟨T, p, v, keep_block hk hg hb, ownF_keep ho hk fun k hk => hr k (hv.symm.trans hk), hv⟩, h.ne, h.nil⟩
theorem WrF.below {w w' : World} {b : Nat} {r : Option Nat} {bs : List UInt8} {bad : Bool} (h : WrF w b r bs bad) (hb : Below w.heap.size w w') : WrF w' b r bs bad := h.keep (S := []) (.of_below hb) (by simp) (by simp)
theorem WrF.flag {w : World} {b : Nat} {r : Option Nat} {bs : List UInt8} {bad : Bool} (h : WrF w b r bs bad) : w.cell? ⟨b, 2, none⟩ = some (.bool bad) := by
  obtain ⟨T, p, v, hb, ho, hr⟩ := h.out
  rw [cell_of_row _ _ _ _ _ _ hb]; rfl
set_option maxHeartbeats 4000000 in
set_option maxRecDepth 100000 in
theorem bad_any (b : Nat) (r : Option Nat) (bs : List UInt8) (bad : Bool) (w : World) (h : WrF w b r bs bad) :
    Calls Try.prog 22 #[.pointer (some ⟨b, 0, none⟩)] w fun e w' => e = .returned (.bool bad) ∧ w = w' := by
  have c2 := h.flag
  clear h
  go_enter Try.func22, Try.ntmps22
  go_wp2
  go_ret
  exact ⟨rfl, rfl⟩
theorem keep_freeze {w : World} {g n : Nat} : Keep [g] w (w.freeze ⟨g, 0, none⟩ n) := by
  unfold World.freeze
  split
  · exact Keep.refl _ _
  · refine ⟨rfl, rfl, rfl, by simp, fun k hk hs => ?_⟩
    simp only [Array.getElem?_modify]
    rw [if_neg (fun e => hs (by simp [← e]))]
theorem froze {w : World} {b g cap : Nat} {r : Option Nat} {bs : List UInt8} {bad : Bool} (h : WrF w b r bs bad) (hc : w.cell? ⟨b, 1, none⟩ = some (.slice (some ⟨g, 0, none⟩) bs.length cap)) : WrF (w.freeze ⟨g, 0, none⟩ bs.length) b r bs bad := by
  obtain ⟨T, p, v, hb, ho, hr⟩ := h.out
  have hne := h.ne
  have hv : v = .slice (some ⟨g, 0, none⟩) bs.length cap := by
    rw [cell_of_row _ _ _ _ _ _ hb] at hc
    simpa using hc
  subst hv
  have hgb : g ≠ b := fun e => hne (by rw [← hr]; simp [Value.ownBlock, e])
  refine ⟨⟨T, p, _, keep_block keep_freeze hb (by simpa using fun e => hgb e.symm), ?_, hr⟩, hne, h.nil⟩
  unfold World.freeze
  split
  · exact ho
  · rename_i hn0
    refine ⟨ho.1, ?_⟩
    rcases ho.2 with ⟨hv, _⟩ | ⟨g', cap', cur, fz, hv, hbg, hg, hfz, rest⟩
    · cases hv
    · injection hv with ha _ hcap
      injection ha with ha
      injection ha with hgg _ _
      subst hgg
      subst hcap
      obtain ⟨lo, hi⟩ := fz
      refine .inr ⟨g, cap, cur, (if lo == hi then (0, 0 + bs.length) else (min lo 0, max hi (0 + bs.length))), rfl, hbg, ?_, ?_, rest⟩
      · simp [Array.getElem?_modify, hg]
      · simp only at hfz
        split <;> simp <;> omega
set_option maxHeartbeats 4000000 in
set_option maxRecDepth 100000 in
theorem builder_string (b : Nat) (r : Option Nat) (bs : List UInt8) (bad : Bool) (w : World) (h : WrF w b r bs bad) (hl : bs.length ≤ 9223372036854775807) :
    Calls Try.prog 81 #[.pointer (some ⟨b, 0, none⟩)] w fun e w' => e = .returned (.string ⟨bs.toArray⟩) ∧ WrF w' b r bs bad ∧ Keep r.toList w w' := by
  obtain ⟨T, p, v, hb, ho, hr⟩ := h.out
  have HW := Lib.hid h
  by_cases h0 : bs = []
  · subst h0
    have hkeep : Hid (WrF w.drew b r [] bad) := Lib.hid (HW.out.below (below_drew (Below.refl _ w)))
    have hk : Hid (Keep r.toList w w.drew) := Lib.hid (Keep.refl _ _).drew
    obtain rfl : v = .slice none 0 0 := by
      rcases ho.2 with ⟨hv, _⟩ | ⟨g, cap, cur, fz, hv, _, hg, _⟩
      · exact hv
      · have := hr.trans (HW.out.nil rfl)
        rw [hv] at this
        cases this
    have c1 : w.drew.cell? ⟨b, 1, none⟩ = some (.slice none 0 0) := by
      have : w.drew.heap[b]? = some (.cells #[p, .slice none 0 0, .bool bad] T (0, 0)) := hb
      rw [cell_of_row _ _ _ _ _ _ this]; rfl
    have hSD : (Builtin.unsafeSliceData_ #[26] 169 #[.slice none 0 0]).run Try.prog w.drew = .ok (.pointer none) w.drew := Lib.run_unsafeSliceData_nil _ _ _ _ _
    have hUS : (Builtin.unsafeString_ #[169, 3] 9 #[.pointer none, .int .i64 0]).run Try.prog w.drew = .ok (.string .empty) w.drew := Lib.run_unsafeString_none _ _ _ _ _
    clear hb ho HW h
    go_enter Try.func81, Try.ntmps81
    go_wp2
    go_region
    all_goals (go_wp2; go_ret; exact ⟨rfl, hkeep.out, hk.out⟩)
  · obtain ⟨g, cap, cur, fz, rfl, hbg, hg, hfz, hnc, hcm, hcs, htake⟩ : ∃ g cap cur fz, v = .slice (some ⟨g, 0, none⟩) bs.length cap ∧ 0 ≤ g ∧ w.heap[g]? = some (.cells cur 5 fz) ∧ fz.2 ≤ bs.length * 1 ∧ bs.length ≤ cap ∧ cap ≤ maxLen ∧ cur.size = cap * 1 ∧ cur.toList.take (bs.length * 1) = Lib.byteCells bs := by
      rcases ho.2 with ⟨_, hz⟩ | ⟨g, cap, cur, fz, hv, r⟩
      · exact absurd (List.eq_nil_of_length_eq_zero hz) h0
      · exact ⟨g, cap, cur, fz, hv, r⟩
    have hlp : 0 < bs.length := List.length_pos_iff.2 h0
    have c1 : w.drew.cell? ⟨b, 1, none⟩ = some (.slice (some ⟨g, 0, none⟩) bs.length cap) := by
      have : w.drew.heap[b]? = some (.cells #[p, .slice (some ⟨g, 0, none⟩) bs.length cap, .bool bad] T (0, 0)) := hb
      rw [cell_of_row _ _ _ _ _ _ this]; rfl
    have hSD : (Builtin.unsafeSliceData_ #[26] 169 #[.slice (some ⟨g, 0, none⟩) bs.length cap]).run Try.prog w.drew = .ok (.pointer (some ⟨g, 0, none⟩)) w.drew :=
      Lib.run_unsafeSliceData_row _ _ _ _ _ _ (by omega)
    have hUS : (Builtin.unsafeString_ #[169, 3] 9 #[.pointer (some ⟨g, 0, none⟩), .int .i64 bs.length]).run Try.prog w.drew = .ok (.string ⟨bs.toArray⟩) (w.drew.freeze ⟨g, 0, none⟩ bs.length) := by
      refine Lib.run_unsafeString_row w.drew 169 3 9 5 (by kernel_rfl) (by kernel_rfl) g cur.size (by have hg' : w.drew.heap[g]? = some (.cells cur 5 fz) := hg; simp [World.shape?, hg']) bs h0 (by omega) (by omega) ?_
      intro j x hx
      exact ho.cells (g := g) rfl j (.int .u8 x.toNat) (by simp [Lib.byteCells, hx])
    have hkeep : Hid (WrF (w.drew.freeze ⟨g, 0, none⟩ bs.length) b r bs bad) := Lib.hid (froze (HW.out.below (below_drew (Below.refl _ w))) c1)
    have hk : Hid (Keep r.toList w (w.drew.freeze ⟨g, 0, none⟩ bs.length)) := Lib.hid (by
      rw [← hr]
      exact (Keep.refl _ _).drew.trans keep_freeze)
    clear hb ho hg htake HW h
    go_enter Try.func81, Try.ntmps81
    go_wp2
    go_region
    all_goals (go_wp2; go_ret; exact ⟨rfl, hkeep.out, hk.out⟩)
/-- what a writer says. -/
def saysB (bs : List UInt8) (bad : Bool) : ByteArray := ⟨(if bad then [] else bs).toArray⟩
set_option maxHeartbeats 4000000 in
set_option maxRecDepth 100000 in
theorem string_any (b : Nat) (r : Option Nat) (bs : List UInt8) (bad : Bool) (w : World) (h : WrF w b r bs bad) (hl : bs.length ≤ 9223372036854775807) :
    Calls Try.prog 23 #[.pointer (some ⟨b, 0, none⟩)] w fun e w' => e = .returned (.string (saysB bs bad)) ∧ WrF w' b r bs bad ∧ Keep r.toList w w' := by
  have c2 := h.flag
  have HW := Lib.hid h
  have HC := Lib.hid (builder_string b r bs bad w h hl)
  clear h
  cases bad
  · go_enter Try.func23, Try.ntmps23
    go_wp2_with fail
    refine HC.out.mono ?_
    rintro e w1 ⟨rfl, h1, hk⟩
    go_wp2
    go_ret
    exact ⟨rfl, h1, hk⟩
  · go_enter Try.func23, Try.ntmps23
    go_wp2
    go_ret
    exact ⟨rfl, HW.out, Keep.refl _ _⟩
end Go.Proofs.Ytfpocddpnoighaa.Wr

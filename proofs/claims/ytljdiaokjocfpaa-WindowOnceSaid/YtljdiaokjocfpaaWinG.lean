/- WindowOnce walked. -/
import Derived.Test.YtljdiaokjocfpaaWinF
import Derived.Test.YtljdiaokjocfpaaK
import Derived.Carry
namespace Go.Proofs.Ytljdiaokjocfpaa.Win
open Go.RowKit Go.Proofs.Ytljdiaokjocfpaa.L Go.Proofs.Ytljdiaokjocfpaa.A Go.Proofs.Ytljdiaokjocfpaa.R Go.Proofs.Ytljdiaokjocfpaa.S Go.Proofs.Ytljdiaokjocfpaa.K Go.Proofs.Ytljdiaokjocfpaa.O
set_option linter.unusedVariables false
set_option linter.unusedSimpArgs false

/-- two windows and the set of what was new. -/
structure Tri (w W : World) (s g x : Nat) (M : List Int) : Prop where
  two : Two w W s g x 0 0
  set : NumSet Try.prog W 3 4 (s + 2) M
theorem see_nil (A : Option Addr) (n c : Nat) (l : List Int) (w : World) (hr : Rd w A n (l.map (Value.int .i64))) :
    Calls Try.prog 20 #[.pointer none, .slice A n c] w fun e w' => e = .returned (.int .i64 0) ∧ w = w' := by
  have HL := Lib.hid hr.len
  have hn := hr.2.1
  go_enter Try.func20, Try.ntmps20
  go_wp2
  go_loop [5, 7, 10] (fun f m i => ∃ k : Nat, k ≤ n ∧ i = .int .i64 k ∧ f = .int .i64 0) (fun _ _ i => n - (intOf i).toNat)
  case atStart => exact ⟨0, by omega, rfl, rfl⟩
  case round =>
    obtain ⟨k, hk, rfl, rfl⟩ := hrel
    by_cases hlt : k < n
    · obtain ⟨ab, ao, hA, hc⟩ := hr.2.2 (by omega)
      have hkl : k < l.length := by have := HL.out; simp at this; omega
      subst hA
      obtain ⟨z, hz⟩ : ∃ z : Int, Hid (z = l[k]) := ⟨_, Lib.hid rfl⟩
      have hcell : w.cell? ⟨ab, ao + k, none⟩ = some (.int .i64 z) := by
        rw [hc k hlt, hz.out]; simp [hkl]
      clear hc
      go_wp2_with (go_at_call 25; refine (seen_nil z w).mono ?_; rintro e w1 ⟨rfl, rfl⟩)
      go_round
      case rel => exact ⟨k + 1, by omega, by go_num, rfl⟩
      case measure => simp [intOf]; omega
    · go_wp2
      go_ret
      exact ⟨rfl, rfl⟩
/-- all at once is one by one. -/
theorem all_snoc (s : St) (l : List Int) (k : Nat) (h : k < l.length) : s.all (l.take (k + 1)) = (s.all (l.take k)).see l[k] := St.all_succ s l k h
theorem all_seen (g x : Nat) (l : List Int) : (∀ z ∈ l, seenB g x z = true) → (St.mk g x 0).all l = ⟨g, x, 0⟩ := by
  induction l with
  | nil => intro _; rfl
  | cons z l ih =>
    intro h
    have h1 : (St.mk g x 0).see z = ⟨g, x, 0⟩ := by simp [St.see, h z (by simp)]
    show ((St.mk g x 0).see z).all l = _
    rw [h1]
    exact ih fun y hy => h y (by simp [hy])
theorem refB_mono {L : List Int} {n z : Int} (h : refB L z = true) : refB (L ++ [n]) z = true := by
  have hg : grt L ≤ grt (L ++ [n]) := by rw [grt_snoc]; split <;> omega
  simp [refB] at h ⊢
  rcases h with ((h | h) | h) | h
  · exact .inl (.inl (.inl h))
  · exact .inl (.inl (.inr h))
  · exact .inl (.inr (by omega))
  · exact .inr (.inl h)
theorem refB_self (L : List Int) (n : Int) : refB (L ++ [n]) n = true := by simp [refB]
theorem refB_not {L : List Int} {n : Int} (h : refB L n = false) : L.contains n = false := by
  unfold refB at h
  simp only [Bool.or_eq_false_iff] at h
  exact h.2
theorem Tri.keep {w W W1 : World} {s g x g1 x1 : Nat} {M : List Int} (h : Tri w W s g x M) (hk : Keep [s] W W1) (hw : Win W1 s g1 x1) : Tri w W1 s g1 x1 M :=
  ⟨⟨h.two.low.trans (hk.below (Nat.le_of_lt h.two.fst.lt) (by simp)), hw, h.two.snd.keep hk (by simp)⟩, h.set.keep hk (by simp)⟩
theorem Tri.below {w W W1 : World} {s g x : Nat} {M : List Int} (h : Tri w W s g x M) (hb : Below W.heap.size W W1) : Tri w W1 s g x M := h.keep (.of_below hb) (h.two.fst.below hb)
theorem Tri.put {w W W1 : World} {s g x : Nat} {M M' : List Int} (h : Tri w W s g x M) (hg : W.grownBy W1 (some (s + 2))) (hs : NumSet Try.prog W1 3 4 (s + 2) M') : Tri w W1 s g x M' := by
  have hk : Keep [s + 2] W W1 := keep_grown hg _ fun k e _ => by cases e; simp
  exact ⟨⟨h.two.low.trans (hk.below (Nat.le_of_lt h.two.fst.lt) (by simp)), h.two.fst.keep hk (by simp), h.two.snd.keep hk (by simp)⟩, hs⟩
theorem tri_see {w W : World} {s g x : Nat} {M : List Int} (h : Tri w W s g x M) (B : Nat) (hB : W.heap.size = B) (n : Int) (g1 x1 f : Nat) (hok : (St.mk g x 0).ok) (hn : -9223372036854775808 ≤ n ∧ n ≤ 9223372036854775807) (hres : (St.mk g x 0).all [n] = ⟨g1, x1, f⟩) :
    Calls Try.prog 20 #[.pointer (some ⟨s, 0, none⟩), .slice (some ⟨B, 0, none⟩) 1 1] (W.alloc (.cells #[.int .i64 n] 3)) fun e w' => e = .returned (.int .i64 f) ∧ Tri w w' s g1 x1 M := by
  subst hB
  refine (See_row s g x g1 x1 f [n] 1 W h.two.fst hok rfl (by decide) (rng1 n hn) hres).mono ?_
  rintro e w' ⟨he, hW, hk⟩
  exact ⟨he, h.keep hk hW⟩
theorem tri_seen {w W : World} {s g x : Nat} {M : List Int} (h : Tri w W s g x M) (hi : Inv g x M) (n : Int) (hr : refB M n = true) (hn : -9223372036854775808 ≤ n ∧ n ≤ 9223372036854775807) :
    Calls Try.prog 25 #[.pointer (some ⟨s, 0, none⟩), .int .i64 n] W fun e w' => e = .returned (.bool true) ∧ Tri w w' s g x M := by
  refine (seen_any s g x n W h.two.fst hi.g_le hi.lt hn).mono ?_
  rintro e w' ⟨he, hb⟩
  exact ⟨by rw [he, hi.seen, hr], h.below hb⟩
theorem tri_new (w : World) : Tri w (((w.alloc (.cells #[.int .i64 0, .int .u64 0] 38)).alloc (.cells #[.int .i64 0, .int .u64 0] 38)).alloc (.map #[] 0)) w.heap.size 0 0 [] := by
  have h := two_new w
  refine ⟨⟨h.low.alloc (by simp; omega) _, h.fst.alloc _, h.snd.alloc _⟩, ?_⟩
  have := set_made (P := Try.prog) (k := 3) (e := 4) ((w.alloc (.cells #[.int .i64 0, .int .u64 0] 38)).alloc (.cells #[.int .i64 0, .int .u64 0] 38))
  simpa using this
structure Fin3 (w W : World) (s g x : Nat) (M : List Int) : Prop where
  low : Below s w W
  fst : Win W s g x
  set : NumSet Try.prog W 3 4 (s + 2) M
theorem fin_v {w W : World} {s g x : Nat} {M : List Int} (h : Tri w W s g x M) (A : Option Addr) (n c : Nat) (l : List Int) (hr : Rd W A n (l.map (Value.int .i64))) (hA : 0 < n → ∀ o, A = some o → o.block < s) (hl : ∀ z ∈ l, -9223372036854775808 ≤ z ∧ z ≤ 9223372036854775807) (hall : (St.mk 0 0 0).all l = ⟨g, x, M.length⟩) :
    Calls Try.prog 20 #[.pointer (some ⟨s + 1, 0, none⟩), .slice A n c] W fun e w' => e = .returned (.int .i64 (M.length : Nat)) ∧ Fin3 w w' s g x M := by
  refine (See_any (s + 1) 0 0 A n c l W h.two.snd ok0 hr (fun h0 o ho => by have := hA h0 o ho; omega) hl).mono ?_
  rintro e w' ⟨he, hW, hk⟩
  rw [hall] at he
  exact ⟨he, h.two.low.trans (hk.below (Nat.le_of_lt h.two.fst.lt) (by simp)), h.two.fst.keep hk (by simp), h.set.keep hk (by simp)⟩
theorem fin_w {w W : World} {s g x : Nat} {M : List Int} (h : Fin3 w W s g x M) (hi : Inv g x M) (A : Option Addr) (n c : Nat) (l : List Int) (hr : Rd W A n (l.map (Value.int .i64))) (hA : 0 < n → ∀ o, A = some o → o.block < s) (hl : ∀ z ∈ l, -9223372036854775808 ≤ z ∧ z ≤ 9223372036854775807) (hs : ∀ z ∈ l, refB M z = true) :
    Calls Try.prog 20 #[.pointer (some ⟨s, 0, none⟩), .slice A n c] W fun e w' => e = .returned (.int .i64 0) ∧ Below s w w' := by
  refine (See_any s g x A n c l W h.fst (hi.ok 0) hr (fun h0 o ho => by have := hA h0 o ho; omega) hl).mono ?_
  rintro e w' ⟨he, hW, hk⟩
  rw [all_seen g x l (fun z hz => by rw [hi.seen, hs z hz])] at he
  exact ⟨he, h.low.trans (hk.below (Nat.le_of_lt h.fst.lt) (by simp))⟩
theorem i64_wf {n : Int} (h : -9223372036854775808 ≤ n ∧ n ≤ 9223372036854775807) : (Lit.int .i64 n).wf = true := by
  simp [Lit.wf, IntKind.min, IntKind.max, IntKind.signed, IntKind.bits]
  omega
theorem once_len {g x k : Nat} {M la : List Int} (hI : Inv g x M) (h : (St.mk 0 0 0).all (la.take k) = ⟨g, x, M.length⟩) (hk : k ≤ 200) : M.length < 1000000 := by
  have := St.fresh_le (la.take k) (St.mk 0 0 0)
  rw [h] at this
  simp at this
  omega
theorem see_shift (g x f : Nat) (n : Int) : (St.mk g x f).see n = ⟨((St.mk g x 0).see n).g, ((St.mk g x 0).see n).x, f + ((St.mk g x 0).see n).fresh⟩ := by
  unfold St.see
  split <;> simp
theorem once_same (la : List Int) (k : Nat) (hk : k < la.length) {g x : Nat} {M : List Int} (hI : Inv g x M) (h : (St.mk 0 0 0).all (la.take k) = ⟨g, x, M.length⟩) (hr : refB M la[k] = true) : (St.mk 0 0 0).all (la.take (k + 1)) = ⟨g, x, M.length⟩ := by
  rw [St.all_succ _ la k hk, h, see_shift]
  have e := all_one g x la[k]
  rw [hI.seen, hr] at e
  have e2 : (St.mk g x 0).see la[k] = ⟨g, x, 0⟩ := e
  rw [e2]; rfl
theorem once_new (la : List Int) (k : Nat) (hk : k < la.length) {g x g1 x1 : Nat} {M : List Int} {z : Int} (h : (St.mk 0 0 0).all (la.take k) = ⟨g, x, M.length⟩) (hz : z = la[k]) (hr : (St.mk g x 0).all [z] = ⟨g1, x1, 1⟩) : (St.mk 0 0 0).all (la.take (k + 1)) = ⟨g1, x1, (M ++ [z]).length⟩ := by
  rw [St.all_succ _ la k hk, h, see_shift, ← hz]
  have e2 : (St.mk g x 0).see z = ⟨g1, x1, 1⟩ := hr
  rw [e2]; simp
theorem once_more (la : List Int) (k : Nat) (hk : k < la.length) {M : List Int} (h : ∀ z ∈ la.take k, refB M z = true) (hr : refB M la[k] = true) : ∀ z ∈ la.take (k + 1), refB M z = true := by
  intro z hz
  rw [List.take_succ_eq_append_getElem hk, List.mem_append, List.mem_singleton] at hz
  rcases hz with hz | rfl
  · exact h z hz
  · exact hr
set_option maxHeartbeats 2000000 in
theorem once_any (A : Option Addr) (na ca : Nat) (la : List Int) (w : World) (ha : Rd w A na (la.map (Value.int .i64))) (ra : ∀ z ∈ la, -9223372036854775808 ≤ z ∧ z ≤ 9223372036854775807) :
    Calls Try.prog 8 #[.slice A na ca] w fun e w' => e = .returned (.bool true) ∧ Below w.heap.size w w' := by
  have hna := ha.2.1
  by_cases a1 : 200 < na
  · go_enter Try.func8, Try.ntmps8
    go_wp2_with fail
    refine (awake_any w).mono ?_
    rintro e w1 ⟨rfl, hb1⟩
    go_wp2
    go_ret
    exact ⟨rfl, hb1⟩
  have HA := Lib.hid ha
  have RA := Lib.hid ra
  have hki : Try.prog.underlying 3 = some (.int .i64) := by kernel_rfl
  have hkt : Try.prog.underlying 46 = some (.map 3 4) := by kernel_rfl
  have hkb : Try.prog.underlying 4 = some .bool := by kernel_rfl
  have hkz : ∀ w : World, (zeroValue 4).run Try.prog w = .ok (.bool false) w := fun w => by kernel_rfl
  have HKI := Lib.hid hki
  have HKT := Lib.hid hkt
  have HKB := Lib.hid hkb
  have HKZ := Lib.hid hkz
  clear ha ra hki hkt hkb hkz
  go_enter Try.func8, Try.ntmps8
  go_wp2_with fail
  refine (awake_any w).mono ?_
  rintro e w1 ⟨rfl, hb1⟩
  have hbo := tri_new w1
  have hmm := @run_makeMap Try.prog
  have ha1 := Lib.hid (HA.out.below hb1)
  go_wp2_with fail
  go_loopw [7, 17] (fun n i wr => ∃ (k g x : Nat) (M : List Int), k ≤ na ∧ i = .int .i64 k ∧ Tri w1 wr w1.heap.size g x M ∧ Inv g x M ∧ (St.mk 0 0 0).all (la.take k) = ⟨g, x, M.length⟩ ∧ (∀ z ∈ la.take k, refB M z = true)) (fun _ i _ => na - (intOf i).toNat)
  case atStart => exact ⟨0, 0, 0, [], by omega, rfl, hbo, Inv.nil, rfl, by simp⟩
  case round =>
    obtain ⟨k, g, x, M, hk, rfl, hT, hI, hall, hseen⟩ := hrel
    by_cases hlt : k < na
    · have hr := ha1.out.below hT.two.low
      obtain ⟨ab, ao, hA, hc⟩ := hr.2.2 (by omega)
      have hkl : k < la.length := by have := hr.len; simp at this; omega
      subst hA
      obtain ⟨z, hz⟩ : ∃ z : Int, Hid (z = la[k]) := ⟨_, Lib.hid rfl⟩
      have hcell := hc k hlt
      rw [List.getElem?_map, List.getElem?_eq_getElem hkl, ← hz.out] at hcell
      simp only [Option.map_some] at hcell
      have hzb := RA.out z (by rw [hz.out]; exact List.getElem_mem _)
      have HZ := Lib.hid hzb
      have HL := Lib.hid (once_len hI hall (by omega))
      have HALL := Lib.hid hall
      have HSEEN := Lib.hid hseen
      clear hc hr hzb hall hseen
      cases hr : refB M z with
      | true =>
        obtain ⟨e1, e2⟩ := round_true hI hr
        have HE := Lib.hid e2
        have HR := Lib.hid hr
        clear e1 e2 hr
        go_wp2_with fail
        refine (tri_see hT _ rfl z g x 0 (hI.ok 0) HZ.out HE.out).mono ?_
        rintro e w2 ⟨rfl, hT2⟩
        go_wp2_with fail
        refine (tri_seen hT2 hI z HR.out HZ.out).mono ?_
        rintro e w3 ⟨rfl, hT3⟩
        go_wp2
        go_roundw
        case rel => exact ⟨k + 1, g, x, M, by omega, by go_num, hT3, hI, (once_same la k hkl hI HALL.out (hz.out ▸ HR.out)), once_more la k hkl HSEEN.out (hz.out ▸ HR.out)⟩
        case measure => simp [intOf]; omega
      | false =>
        obtain ⟨g1, x1, e1, e2, hI1⟩ := round_false hI hr
        have HE := Lib.hid e2
        have HR := Lib.hid hr
        have hnot := refB_not hr
        have HN := Lib.hid hnot
        clear e1 e2 hr hnot
        go_wp2_with fail
        refine (tri_see hT _ rfl z g1 x1 1 (hI.ok 0) HZ.out HE.out).mono ?_
        rintro e w2 ⟨rfl, hT2⟩
        go_wp2_with (first | (at_lookup; refine wpList_lookup_set rfl (.tmp 25) (.tmp 26) 46 rfl hT2.set HKI.out HKT.out HKB.out (HKZ.out _) z (i64_wf HZ.out) rfl rfl ?_; rw [HN.out]) | (at_mapUpdate; refine wpList_put_set rfl (.tmp 28) (.tmp 29) _ 46 rfl hT2.set HL.out HKI.out HKT.out HKB.out z (i64_wf HZ.out) HN.out rfl rfl rfl ?_; intro w3 hs3 hg3; have hT3 := hT2.put hg3 hs3))
        refine (tri_seen hT3 hI1 z (refB_self M z) HZ.out).mono ?_
        rintro e w4 ⟨rfl, hT4⟩
        go_wp2
        go_roundw
        case rel => exact ⟨k + 1, g1, x1, M ++ [z], by omega, by go_num, hT4, hI1, (once_new la k hkl HALL.out hz.out HE.out), once_more la k hkl (fun y hy => refB_mono (HSEEN.out y hy)) (hz.out ▸ refB_self M z)⟩
        case measure => simp [intOf]; omega
    · have hke : k = na := by omega
      subst hke
      have hfin : (St.mk 0 0 0).all la = ⟨g, x, M.length⟩ := by rw [← hall, List.take_of_length_le (by have := HA.out.len; simp at this; omega)]
      have hfs : ∀ z ∈ la, refB M z = true := fun z hz => hseen z (by rw [List.take_of_length_le (by have := HA.out.len; simp at this; omega)]; exact hz)
      have HF := Lib.hid hfin
      have HS := Lib.hid hfs
      have HNE := Lib.hid (fun (h0 : 0 < k) o (ho : A = some o) => rd_block HA.out h0 o ho)
      have HB1 := Lib.hid hb1
      clear hall hseen hfin hfs hlt hk hb1
      go_wp2_with fail
      refine (clear_nil _).mono ?_
      rintro e w2 ⟨rfl, rfl⟩
      go_wp2_with fail
      refine (fin_v hT A k ca la (ha1.out.below hT.two.low) (fun h0 o ho => Nat.lt_of_lt_of_le (HNE.out h0 o ho) HB1.out.size) RA.out HF.out).mono ?_
      rintro e w3 ⟨rfl, hF⟩
      go_wp2_with (first | (at_len; refine wpList_len_set rfl (.tmp 38) 46 rfl hF.set HKT.out rfl ?_))
      refine (fin_w hF hI A k ca la (ha1.out.below hF.low) (fun h0 o ho => Nat.lt_of_lt_of_le (HNE.out h0 o ho) HB1.out.size) RA.out HS.out).mono ?_
      rintro e w4 ⟨rfl, hF4⟩
      go_wp2_with fail
      refine (see_nil A k ca la _ (ha1.out.below hF4)).mono ?_
      rintro e w5 ⟨rfl, rfl⟩
      go_wp2_with fail
      refine (seen_nil 1 _).mono ?_
      rintro e w5 ⟨rfl, rfl⟩
      go_wp2_with fail
      refine (greatest_nil _).mono ?_
      rintro e w5 ⟨rfl, rfl⟩
      go_wp2
      go_ret
      exact ⟨rfl, below2 HB1.out hF4⟩
theorem once_walk (w : World) (s : Sl Int) (hs : SlOk w 1 8 intE intG s) :
    Calls Try.prog 8 #[.slice s.A s.n s.c] w fun e w' => e = .returned (.bool true) ∧ Below w.heap.size w w' :=
  once_any s.A s.n s.c s.xs w (rd_ints hs).1 (rd_ints hs).2
end Go.Proofs.Ytljdiaokjocfpaa.Win
